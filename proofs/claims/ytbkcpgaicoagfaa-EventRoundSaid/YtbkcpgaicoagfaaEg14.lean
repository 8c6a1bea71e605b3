/- Delta: the walk of the answer's Put. -/
import Derived.Test.YtbkcpgaicoagfaaEg13
set_option linter.unusedVariables false
set_option linter.unusedSimpArgs false
namespace Go.Proofs.Ytbkcpgaicoagfaa
open Go.RowKit

/-- Of what lay in w0 only the answer's table's may have changed. -/
def GPR (w0 : World) (p : Nat) (lv : Value) (u u' : World) : Prop := Chg (fun k => ftr p lv k ∨ w0.heap.size ≤ k) u u'
structure PairR (w0 : World) (p : Nat) (lv : Value) (u : World) : Prop where
  chg : Chg (ftr p lv) w0 u
theorem PairR.b0 {w0 u u' : World} {p : Nat} {lv : Value} (h : PairR w0 p lv u) (hg : Grew u u') : PairR w0 p lv u' := ⟨h.chg.tr (Chg.of hg)⟩
theorem PairR.b1 {w0 u u' : World} {p : Nat} {lv : Value} (h : PairR w0 p lv u) (hg : GPR w0 p lv u u') : PairR w0 p lv u' := ⟨h.chg.tr hg⟩
def pxRP (w0 : World) (p : Nat) (lv : Value) (out : List Int) (ts' : List ByteArray) : Px (GPR w0 p lv) (GPR w0 p lv) where
  p := RPutW w0 p lv out ts'
  s1 := false
  s2 := false
  m0 := fun v u u' ⟨B, m, d, h1, h2, h3, h4, h5, h6, l1, h7, h8⟩ hg => ⟨B, m, d, h1, h2.keep hg, h3, h4, h5, h6.keep hg, l1, h7.keep hg, h8⟩
  m1 := fun h => by cases h
  m2 := fun h => by cases h
theorem GPR.of1 {w0 u u' : World} {p : Nat} {lv : Value} {out : List Int} {ts' : List ByteArray} {B : Option Addr} {m d : Nat} (h : RPutQ u u' p lv out ts' B m d) : GPR w0 p lv u u' := h.chg.mono (fun k hk => .inl hk)
theorem GPR.of2 {w0 u u' : World} {p : Nat} {lv l1 : Value} {out : List Int} {ts' : List ByteArray} {B : Option Addr} {m d : Nat} (h : RPutQ u u' p l1 out ts' B m d) (hf : ∀ k, ftr p l1 k → ftr p lv k ∨ w0.heap.size ≤ k) : GPR w0 p lv u u' := h.chg.mono hf
theorem RPutW.of2 {w0 u u' : World} {p : Nat} {lv lv1 : Value} {out : List Int} {ts' : List ByteArray} {B : Option Addr} {m d : Nat} (h : RPutQ u u' p lv1 out ts' B m d) (hw : w0.heap.size ≤ u.heap.size) (hf : ∀ k, ftr p lv1 k → ftr p lv k ∨ w0.heap.size ≤ k) : RPutW w0 p lv out ts' (.slice B m d) u' := by
  obtain ⟨l1, hT, hf1, _⟩ := h.tab
  exact ⟨B, m, d, rfl, h.rd, h.le, h.cap, h.fresh.mono hw, h.u8, l1, hT, fun k hk => (hf1 k hk).elim (fun h => hf k h) (fun h => .inr (by omega))⟩

set_option maxRecDepth 100000 in
set_option maxHeartbeats 3200000 in
theorem rdput_any (p : Nat) (lv : Value) (ts : List ByteArray) (A0 : Option Addr) (n0 c0 : Nat) (bs : List Int) (A : Option Addr) (n c : Nat) (was : List Hdr) (B : Option Addr) (m d : Nat) (list : List Hdr) (w : World)
    (hT : RefI w p lv ts) (hb : Rd w A0 n0 bs) (hr : RdH w A n was) (hs : RdH w B m list) (hB : 0 < m → ∀ ad, B = some ad → ¬ ftr p lv ad.block)
    (hn : n ≤ 1000) (hm : m ≤ 1000) (hn0 : n0 ≤ 10000000) (hz : ∀ h ∈ list, h.1.size ≤ 10000 ∧ h.2.size ≤ 10000) (hf : ts.length + 2 * m < 1000000) :
    Calls Try.prog 32 #[.slice A0 n0 c0, .pointer (some ⟨p, 0, none⟩), .slice A n c, .slice B m d] w fun e w' => ∃ B' m' d', e = .returned (.slice B' m' d') ∧ RPutQ w w' p lv (bs ++ (putD ts was list).1) (putD ts was list).2 B' m' d' := by
  have hl1 := hr.lenH
  have hl2 := hs.lenH
  have hle := endsB_le was list
  have hends := fun (u : World) (h1 : RdH u A n was) (h2 : RdH u B m list) => rends_any A n c was B m d list u h1 h2 (by omega) (by omega)
  obtain ⟨f, hf1⟩ : ∃ f, endsA was list = f := ⟨_, rfl⟩
  obtain ⟨g, hg1⟩ : ∃ g, endsB was list = g := ⟨_, rfl⟩
  obtain ⟨fr, hfr⟩ : ∃ fr, freshD was list = fr := ⟨_, rfl⟩
  have hfl := freshD_len was list
  have hfd : (list.take (m - g)).drop f = fr := by rw [← hfr, freshD, hf1, hg1, hl2]
  unfold putD
  rw [hf1, hg1] at hends hle hfl
  rw [hf1, hg1]
  rw [hfr] at hfl ⊢
  rw [hl1, hl2] at hle
  rw [hl2] at hfl
  obtain ⟨q, hq⟩ : ∃ q, m - g - f = q := ⟨_, rfl⟩
  have hfl2 : fr.length = q := by omega
  rw [hfl2]
  have hle1 : f + g ≤ m := hle.2
  have hmq : q + f + g = m := by omega
  have hfg : ∀ k, k < q → fr[k]? = list[f + k]? := fun k hk => by
    rw [← hfd, List.getElem?_drop, List.getElem?_take, if_pos (by omega)]
  have HFG := Lib.hid hfg
  have hbF := fun (u : World) => bytes_any (f : Int) u (by omega) (by omega)
  have hbG := fun (u : World) => bytes_any (g : Int) u (by omega) (by omega)
  have hbQ := fun (u : World) => bytes_any ((m : Int) - (f : Int) - (g : Int)) u (by omega) (by omega)
  rw [show leb ((m : Int) - (f : Int) - (g : Int)) = leb (q : Int) by congr 1; omega] at hbQ
  have hlf := leb_len (v := (f : Int)) (by omega)
  have hlg := leb_len (v := (g : Int)) (by omega)
  have hlq := leb_len (v := (q : Int)) (by omega)
  obtain ⟨pb, hpb⟩ : ∃ pb, leb (f : Int) ++ (leb (g : Int) ++ leb (q : Int)) = pb := ⟨_, rfl⟩
  have hpp : ∀ x : List Int, bs ++ (leb (f : Int) ++ (leb (g : Int) ++ (leb (q : Int) ++ x))) = (bs ++ pb) ++ x := fun x => by rw [← hpb]; simp only [List.append_assoc]
  have hp3 : ((bs ++ leb (f : Int)) ++ leb (g : Int)) ++ leb (q : Int) = bs ++ pb := by rw [← hpb]; simp only [List.append_assoc]
  have hpl : pb.length ≤ 30 := by rw [← hpb]; simp only [List.length_append]; omega
  rw [hpp]
  have hbl := hb.len
  obtain ⟨lf, hlf2⟩ : ∃ l, leb (f : Int) = l := ⟨_, rfl⟩
  obtain ⟨lg, hlg2⟩ : ∃ l, leb (g : Int) = l := ⟨_, rfl⟩
  obtain ⟨lq, hlq2⟩ : ∃ l, leb (q : Int) = l := ⟨_, rfl⟩
  rw [hlf2] at hbF hlf hp3
  rw [hlg2] at hbG hlg hp3
  rw [hlq2] at hbQ hlq hp3
  obtain ⟨n1, hn1⟩ : ∃ n1, bs.length = n1 := ⟨_, rfl⟩
  obtain ⟨n2, hn2⟩ : ∃ n1, (bs ++ lf).length = n1 := ⟨_, rfl⟩
  obtain ⟨n3, hn3⟩ : ∃ n1, (bs ++ lf ++ lg).length = n1 := ⟨_, rfl⟩
  obtain ⟨f1, hf1'⟩ : ∃ n1, lf.length = n1 := ⟨_, rfl⟩
  obtain ⟨g1, hg1'⟩ : ∃ n1, lg.length = n1 := ⟨_, rfl⟩
  obtain ⟨q1, hq1'⟩ : ∃ n1, lq.length = n1 := ⟨_, rfl⟩
  have hnn : n2 ≤ 10000010 ∧ n3 ≤ 10000020 ∧ f1 ≤ 10 ∧ g1 ≤ 10 ∧ q1 ≤ 10 := by
    simp only [List.length_append] at hn2 hn3
    omega
  have HN1 := Lib.hid hn1
  have HN2 := Lib.hid hn2
  have HN3 := Lib.hid hn3
  have HF1 := Lib.hid hf1'
  have HG1 := Lib.hid hg1'
  have HQ1 := Lib.hid hq1'
  have HP3 := Lib.hid hp3
  have HPL := Lib.hid hpl
  have HBF := Lib.hid hbF
  have HBG := Lib.hid hbG
  have HBQ := Lib.hid hbQ
  have HT := Lib.hid hT
  have HB := Lib.hid hb
  have HRD := Lib.hid hr
  have HSD := Lib.hid hs
  have HE := Lib.hid hends
  have HL := Lib.hid hfl2
  have HLL := Lib.hid hl2
  have HMQ := Lib.hid hmq
  have HBB := Lib.hid hB
  have HZ : RowKit.Hid (∀ h ∈ fr, h.1.size ≤ 10000 ∧ h.2.size ≤ 10000) := fun h hh => hz h (by rw [← hfd] at hh; exact List.mem_of_mem_take (List.mem_of_mem_drop hh))
  have hqm : q ≤ m := by omega
  have HB0 : RowKit.Hid (bs.length = n0) := hbl
  clear hl1 hl2 hle hends hf1 hg1 hfr hfl hfd hq hfl2 hT hb hr hs hB hz hmq hfg hbF hbG hbQ hlf hlg hlq hpb hpp hp3 hpl hbl hlf2 hlg2 hlq2 hn1 hn2 hn3 hf1' hg1' hq1'
  go_enter Try.func32, Try.ntmps32
  go_wp2_with (first | (go_at_call 62; refine Calls.mono (HE.out _ HRD.out HSD.out) ?_; rintro e w1 ⟨rfl, hg1⟩) | ((with_reducible refine gate_b .append #[.tmp 19, .tmp 20] _ rfl ?_); refine apps (w0 := w) rfl rfl rfl rfl ((own_lit0 w1).lower hg1.size) ((HB.out.keep hg1).al _) (hg1.al _) (by simp; have := hg1.size; omega) (by simp; omega) ?_; intro v2 w2 ho2 hg2 hb2; rw [List.nil_append] at ho2) | (go_at_call 48; refine Calls.mono (HBF.out _) ?_; rintro e w3 ⟨v3, rfl, ho3, hg3⟩; clear HBF; obtain ⟨A3, c3, rfl, hc3, hm3, hr3⟩ := ho3.rd' HF1.out) | ((with_reducible refine gate_b .append #[.tmp 21, .tmp 24] _ rfl ?_); refine apps (w0 := w) rfl rfl rfl rfl (ho2.keep hg3) hr3 (hg2.trans (hg3.mono hb2)) (by have := hg3.size; omega) (by rw [HN1.out]; have := HB0.out; have := HN1.out; omega) ?_; intro v4 w4 ho4 hg4 hb4) | (go_at_call 48; refine Calls.mono (HBG.out _) ?_; rintro e w5 ⟨v5, rfl, ho5, hg5⟩; clear HBG; obtain ⟨A5, c5, rfl, hc5, hm5, hr5⟩ := ho5.rd' HG1.out) | ((with_reducible refine gate_b .append #[.tmp 25, .tmp 28] _ rfl ?_); refine apps (w0 := w) rfl rfl rfl rfl (ho4.keep hg5) hr5 (hg4.trans (hg5.mono hb4)) (by have := hg5.size; omega) (by rw [HN2.out]; omega) ?_; intro v6 w6 ho6 hg6 hb6) | (go_at_call 48; refine Calls.mono (HBQ.out _) ?_; rintro e w7 ⟨v7, rfl, ho7, hg7⟩; clear HBQ; obtain ⟨A7, c7, rfl, hc7, hm7, hr7⟩ := ho7.rd' HQ1.out) | ((with_reducible refine gate_b .append #[.tmp 30, .tmp 38] _ rfl ?_); refine apps (w0 := w) rfl rfl rfl rfl (ho6.keep hg7) hr7 (hg6.trans (hg7.mono hb6)) (by have := hg7.size; omega) (by rw [HN3.out]; omega) ?_; intro v8 w8 ho8 hg8 hb8))
  rw [HP3.out] at ho8
  have hG8 : Grew w w8 := hg8
  obtain ⟨A8, c8, rfl, hc8, hm8, hr8⟩ := ho8.rd
  obtain ⟨n8, hn8⟩ : ∃ n8, (bs ++ pb).length = n8 := ⟨_, rfl⟩
  rw [hn8] at hr8 ho8 hc8 ⊢
  have hI0 : RPutQ w w8 p lv (bs ++ pb) ts A8 n8 c8 := ⟨hr8, hc8, hm8, ho8.fresh, ho8.u8, ⟨lv, HT.out.keep hG8, fun k h => .inl h, fun ad e h => by have := ho8.fresh ad e; have := HT.out.lt h; omega⟩, Chg.of hG8⟩
  have HI0 := Lib.hid hI0
  clear hI0 hr8 hc8 hm8 ho8 hG8 hg8 hb8 hn8 ho6 hg6 hb6 ho7 hg7 hr7 hc7 hm7 ho5 hg5 hr5 hc5 hm5 ho4 hg4 hb4 ho3 hg3 hc3 hm3 hr3 ho2 hg2 hb2 hg1 hnn
  go_loopw [11, 12] (fun b i wr => ∃ (k e : Nat) (B' : Option Addr) (m' d' : Nat), i = .int .i64 (e : Int) ∧ RowKit.Hid (e = f + k) ∧ e + g ≤ m ∧ b = .slice B' m' d' ∧ RPutQ w wr p lv ((bs ++ pb) ++ (putFs ts (fr.take k)).1) (putFs ts (fr.take k)).2 B' m' d') (fun _ i _ => m - (intOf i).toNat)
  case atStart => exact ⟨0, f, A8, n8, c8, rfl, Lib.hid rfl, hle1, rfl, by simpa [putFs] using HI0.out⟩
  case round =>
    rename_i hrel0
    obtain ⟨k, e, B', m', d', rfl, he, heg, rfl, hQ⟩ := hrel
    have HQ := Lib.hid hQ
    clear hQ HI0
    by_cases hlt : e + g < m
    · have hkq : k < q := by have := he.out; have := HMQ.out; omega
      have hem : e < m := by omega
      obtain ⟨x, hx⟩ : ∃ x, fr[k]? = some x := ⟨_, List.getElem?_eq_getElem (by rw [HL.out]; exact hkq)⟩
      have hR := HSD.out.chg HQ.out.chg HBB.out
      obtain ⟨b1, o1, x', hA, hx', ha1, ha2⟩ := hR.atH hem
      have hxx := HFG.out k hkq
      rw [hx, ← he.out, hx'] at hxx
      obtain rfl := Option.some.inj hxx
      have hsn := putFs_snoc (fr.take k) ts x
      have htk : fr.take k ++ [x] = fr.take (k + 1) := by
        have h2 := (List.getElem?_eq_some_iff.1 hx).2
        rw [← h2, List.take_append_getElem]
      rw [htk] at hsn
      have hzx := HZ.out x (List.mem_of_getElem? hx)
      have hlk := putFs_len (fr.take k) ts (fun h hh => HZ.out h (List.mem_of_mem_take hh)) (by rw [List.length_take, HL.out]; omega)
      rw [List.length_take, HL.out] at hlk
      have hpbl := HPL.out
      obtain ⟨o, ho⟩ : ∃ o, (bs ++ pb) ++ (putFs ts (fr.take k)).1 = o := ⟨_, rfl⟩
      obtain ⟨us, hus⟩ : ∃ us, (putFs ts (fr.take k)).2 = us := ⟨_, rfl⟩
      have hml := HQ.out.rd.len
      have hbl := HB.out.len
      have hmm : m' ≤ 50000000 := by
        rw [← hml]
        simp only [List.length_append]; omega
      have HQ2 : RowKit.Hid (RPutQ w wr p lv o us B' m' d') := by rw [← ho, ← hus]; exact HQ.out
      rw [hus] at hsn hlk
      have hul : us.length + 2 ≤ 1000000 := by omega
      obtain ⟨us1, hus1⟩ : ∃ us1, (putT us x.1).2 = us1 := ⟨_, rfl⟩
      obtain ⟨us2, hus2⟩ : ∃ us2, (putT us1 x.2).2 = us2 := ⟨_, rfl⟩
      have hp1 := putT_len2 us x.1 (by omega) (by omega)
      rw [hus1] at hp1
      obtain ⟨o1', ho1⟩ : ∃ o1', o ++ (putT us x.1).1 = o1' := ⟨_, rfl⟩
      obtain ⟨o2', ho2⟩ : ∃ o2', o1' ++ (putT us1 x.2).1 = o2' := ⟨_, rfl⟩
      have hm2 : o1'.length ≤ 60000000 := by
        have h1 := HQ2.out.rd.len
        rw [← ho1, List.length_append, h1]; omega
      obtain ⟨l1, hT1, hf1, _⟩ := HQ2.out.tab
      have hP1 := fun (u : World) (h : RefI u p l1 us) (h2 : Rd u B' m' o) => rput_any p l1 us x.1 B' m' d' o u h h2 (by omega) (by omega) (by omega)
      have hP2 := fun (u : World) (l : Value) (A : Option Addr) (n c : Nat) (h : RefI u p l us1) (h2 : Rd u A n o1') => rput_any p l us1 x.2 A n c o1' u h h2 (by omega) (by have := h2.len; omega) (by omega)
      rw [ho1, hus1] at hP1
      rw [ho2, hus2] at hP2
      have HE1 : RowKit.Hid (o2' = (bs ++ pb) ++ (putFs ts (fr.take (k + 1))).1 ∧ us2 = (putFs ts (fr.take (k + 1))).2) := by
        rw [hsn]
        refine ⟨?_, ?_⟩
        · rw [← ho2, ← ho1, ← ho, hus1]; simp only [List.append_assoc]
        · rw [← hus2, ← hus1]
      have hT0 : RefI wr p l1 us ∧ Rd wr B' m' o := ⟨hT1, HQ2.out.rd⟩
      have hhF : ¬ ftr p l1 b1 := fun h => by
        have h2 := HBB.out (by omega) _ hA
        rcases hf1 _ h with h | h
        · exact h2 h
        · have hl := HSD.out.atH hem
          obtain ⟨b3, o3, x3, hA3, _, ha3, _⟩ := hl
          rw [hA] at hA3
          cases hA3
          have := lt_of_cell ha3
          simp only at this
          omega
      have hcu : ∀ u, PairR wr p l1 u → u.cell? ⟨b1, o1 + e * 2, none⟩ = some (.string x.1) ∧ u.cell? ⟨b1, o1 + e * 2 + 1, none⟩ = some (.string x.2) := fun u h =>
        ⟨(World.cell?_of_block (h.chg.block b1 (lt_of_cell ha1) hhF)).trans ha1, (World.cell?_of_block (h.chg.block b1 (lt_of_cell ha1) hhF)).trans ha2⟩
      have HCU := Lib.hid hcu
      have HP1 := Lib.hid hP1
      have HP2 := Lib.hid hP2
      have HT1 := Lib.hid hT1
      have HF1 := Lib.hid hf1
      obtain ⟨hs1, hs2⟩ := hzx
      subst hA
      clear hsn htk hx ho hus hml hbl hlk hpbl hus1 hus2 ho1 ho2 hP1 hP2 hT1 hf1 hp1 HQ hR hx' hul hmm hm2 ha1 ha2 hcu hhF
      have hS : TwoK false true (GPR wr p l1) (GPR wr p l1) (fun u => RefI u p l1 us ∧ Rd u B' m' o) (fun _ => True) (PairR wr p l1) :=
        ⟨fun _ _ h hg => h.b0 hg, fun _ _ h hg => h.b1 hg, fun _ _ h hg => h.b1 hg, fun _ _ h hg => ⟨h.1.keep hg, h.2.keep hg⟩, (fun h => by cases h), (fun _ _ _ _ => trivial), (fun _ _ _ _ _ => trivial)⟩
      have hB0 : PairR wr p l1 wr := ⟨Chg.of (Grew.rf wr)⟩
      go_wp2_with fail
      refine region_twok 8 14 hS hB0 hT0 trivial [(14, 8)] [[], [], [], [], [], [(3, 52), (4, 53)], [(5, 54)], [(6, 55)], [(1, 50), (2, 51), (7, 56)], [], [], [(9, 58), (10, 59)], [(11, 60)], [(12, 61)], [(0, 49), (8, 57), (13, 62)], [(2, 51), (14, 63)]] [(0, 49), (1, 50), (2, 51), (3, 52), (4, 53), (5, 54), (6, 55), (7, 56), (8, 57), (9, 58), (10, 59), (11, 60), (12, 61), (13, 62), (14, 63), (15, 11)] (fun
        | 0 => .eqv (.pointer (some ⟨p, 0, none⟩)) | 1 => .eqv (.pointer (some ⟨p, 0, none⟩)) | 2 => .eqv (.slice B' m' d') | 3 => .eqv (.slice (some ⟨b1, o1, none⟩) m d) | 4 => .eqv (.int .i64 (e : Int)) | 5 => .eqv (.pointer (some ⟨b1, o1 + e * 2, none⟩)) | 6 => .eqv (.pointer (some ⟨b1, o1 + e * 2, none⟩)) | 7 => .eqv (.string x.1) | 8 => pxRP wr p l1 o1' us1 | 9 => .eqv (.slice (some ⟨b1, o1, none⟩) m d) | 10 => .eqv (.int .i64 (e : Int)) | 11 => .eqv (.pointer (some ⟨b1, o1 + e * 2, none⟩)) | 12 => .eqv (.pointer (some ⟨b1, o1 + e * 2 + 1, none⟩)) | 13 => .eqv (.string x.2) | 14 => pxRP wr p l1 o2' us2 | 15 => pxRP wr p l1 o2' us2 | _ => .any) rfl (by kernel_rfl) (by kernel_rfl) ?_ ?_
      · refine ⟨fun u hu hx => ?_, fun u hu hx => ?_, fun u hu hx => ?_, fun u hu hx => ?_, fun u hu hx => ?_, fun u hu hx => ?_, fun u hu hx => ?_, fun u hu hx => ?_, fun u hu hx => ?_, fun u hu hx => ?_, fun u hu hx => ?_, fun u hu hx => ?_, fun u hu hx => ?_, fun u hu hx => ?_, fun u hu hx => ?_, fun u hu hx => ?_, trivial⟩
        · refine StepGoal.nil ?_
          go_wp2
          exact ⟨rfl, rfl, Grew.rf _, rfl⟩
        · refine StepGoal.nil ?_
          go_wp2
          exact ⟨rfl, rfl, Grew.rf _, rfl⟩
        · refine StepGoal.nil ?_
          go_wp2
          exact ⟨rfl, rfl, Grew.rf _, rfl⟩
        · refine StepGoal.nil ?_
          go_wp2
          exact ⟨rfl, rfl, Grew.rf _, rfl⟩
        · refine StepGoal.nil ?_
          go_wp2
          exact ⟨rfl, rfl, Grew.rf _, rfl⟩
        · rintro _ rfl _ rfl
          refine StepGoal.nil ?_
          simp only [Act.put, List.setIfInBounds_toArray, List.set_cons_zero, List.set_cons_succ]
          go_wp2
          exact ⟨rfl, rfl, Grew.rf _, rfl⟩
        · rintro _ rfl
          refine StepGoal.nil ?_
          simp only [Act.put, List.setIfInBounds_toArray, List.set_cons_zero, List.set_cons_succ]
          go_wp2
          exact ⟨rfl, rfl, Grew.rf _, rfl⟩
        · rintro _ rfl
          have hce := (HCU.out u hu).1
          refine StepGoal.nil ?_
          simp only [Act.put, List.setIfInBounds_toArray, List.set_cons_zero, List.set_cons_succ]
          go_wp2
          exact ⟨rfl, rfl, Grew.rf _, rfl⟩
        · rintro _ rfl _ rfl _ rfl
          have hx1 : RefI u p l1 us ∧ Rd u B' m' o := hx
          refine StepGoal.nil ?_
          simp only [Act.put, List.setIfInBounds_toArray, List.set_cons_zero, List.set_cons_succ]
          go_wp2_with (go_at_call 24; refine Calls.mono (HP1.out _ hx1.1 hx1.2) ?_; rintro e w' ⟨B, m, d, rfl, Q⟩)
          exact ⟨rfl, rfl, GPR.of1 Q, RPutW.of Q hu.chg.size⟩
        · refine StepGoal.nil ?_
          go_wp2
          exact ⟨rfl, rfl, Grew.rf _, rfl⟩
        · refine StepGoal.nil ?_
          go_wp2
          exact ⟨rfl, rfl, Grew.rf _, rfl⟩
        · rintro _ rfl _ rfl
          refine StepGoal.nil ?_
          simp only [Act.put, List.setIfInBounds_toArray, List.set_cons_zero, List.set_cons_succ]
          go_wp2
          exact ⟨rfl, rfl, Grew.rf _, rfl⟩
        · rintro _ rfl
          refine StepGoal.nil ?_
          simp only [Act.put, List.setIfInBounds_toArray, List.set_cons_zero, List.set_cons_succ]
          go_wp2
          exact ⟨rfl, rfl, Grew.rf _, rfl⟩
        · rintro _ rfl
          have hce := (HCU.out u hu).2
          refine StepGoal.nil ?_
          simp only [Act.put, List.setIfInBounds_toArray, List.set_cons_zero, List.set_cons_succ]
          go_wp2
          exact ⟨rfl, rfl, Grew.rf _, rfl⟩
        · rintro _ rfl v57 h57 _ rfl
          obtain ⟨B5, m5, d5, rfl, r5, _, _, _, q5, l5, T5, f5⟩ : RPutW wr p l1 o1' us1 v57 u := h57
          refine StepGoal.nil ?_
          simp only [Act.put, List.setIfInBounds_toArray, List.set_cons_zero, List.set_cons_succ]
          go_wp2_with (go_at_call 24; refine Calls.mono (HP2.out _ l5 B5 m5 d5 T5 r5) ?_; rintro e w' ⟨B, m, d, rfl, Q⟩)
          exact ⟨rfl, rfl, GPR.of2 Q f5, RPutW.of2 Q hu.chg.size f5⟩
        · rintro _ rfl v63 h63
          refine StepGoal.nil ?_
          simp only [Act.put, List.setIfInBounds_toArray, List.set_cons_zero, List.set_cons_succ]
          go_wp2
          exact ⟨rfl, rfl, Grew.rf _, h63⟩
      · intro u hu
        rintro _ rfl _ rfl _ rfl _ rfl _ rfl _ rfl _ rfl _ rfl v57 _ _ rfl _ rfl _ rfl _ rfl _ rfl v63 h63 v11 h11
        refine StepGoal.nil ?_
        simp only [Act.put, List.setIfInBounds_toArray, List.set_cons_zero, List.set_cons_succ]
        obtain ⟨B6, m6, d6, rfl, r6, e6, c6, s6, q6, l6, T6, f6⟩ : RPutW wr p l1 o2' us2 v11 u := h11
        have hchg := HQ2.out.chg
        have hws := hchg.size
        have hN : RPutQ w u p lv ((bs ++ pb) ++ (putFs ts (fr.take (k + 1))).1) (putFs ts (fr.take (k + 1))).2 B6 m6 d6 := by
          rw [← HE1.out.1, ← HE1.out.2]
          refine ⟨r6, e6, c6, s6.mono (by omega), q6, ⟨l6, T6, fun j hj => ?_, fun ad e => q6.ref T6 ad e⟩, hchg.tr (hu.chg.mono fun j hj => HF1.out j hj)⟩
          rcases f6 j hj with h | h
          · exact HF1.out j h
          · exact .inr (by omega)
        have HN := Lib.hid hN
        clear hN hchg hws r6 e6 c6 s6 q6 T6 f6 hu hS hT0 hB0
        go_wp2_with fail
        go_roundw
        case rel => exact ⟨k + 1, e + 1, B6, m6, d6, by go_num, Lib.hid (by have := he.out; omega), by omega, rfl, HN.out⟩
        case measure => simp [intOf]; omega
    · have hfin : fr.take k = fr := List.take_of_length_le (by rw [HL.out]; have := he.out; have := HMQ.out; omega)
      have HFIN := Lib.hid hfin
      clear hfin
      go_wp2_with fail
      go_ret
      refine ⟨_, _, _, rfl, ?_⟩
      have := HQ.out
      rw [HFIN.out] at this
      exact this
end Go.Proofs.Ytbkcpgaicoagfaa
/- Delta: the walk of numbers. -/
set_option linter.unusedVariables false
set_option linter.unusedSimpArgs false
namespace Go.Proofs.Ytbkcpgaicoagfaa
open Go.RowKit

/-- Three numbers, and the place behind; or the first one's error. -/
def nums3 (b : List Int) (at_ : Int) (x y z a er : Int) : Prop :=
  let r0 := lebTake b at_
  let r1 := lebTake b r0.2.1
  let r2 := lebTake b r1.2.1
  (r0.2.2 ≠ 0 ∧ er = r0.2.2 ∧ a = 0) ∨ (r0.2.2 = 0 ∧ r1.2.2 ≠ 0 ∧ er = r1.2.2 ∧ a = 0) ∨ (r0.2.2 = 0 ∧ r1.2.2 = 0 ∧ r2.2.2 ≠ 0 ∧ er = r2.2.2 ∧ a = 0) ∨
  (r0.2.2 = 0 ∧ r1.2.2 = 0 ∧ r2.2.2 = 0 ∧ er = 0 ∧ x = r0.1 ∧ y = r1.1 ∧ z = r2.1 ∧ a = r2.2.1)
def NumQ (b : List Int) (at_ : Int) (w : World) (e : Ending) (w' : World) : Prop :=
  ∃ x y z a er : Int, e = .returned (.tuple #[.agg #[.int .u64 x, .int .u64 y, .int .u64 z], .int .i64 a, .int .i64 er]) ∧ Grew w w' ∧ nums3 b at_ x y z a er

def nxtN (b : List Int) (at_ : Int) : Nat → Int
  | 0 => at_
  | k + 1 => (lebTake b (nxtN b at_ k)).2.1
def NumP (b : List Int) (at_ : Int) (k : Nat) (x y z a : Int) : Prop :=
  a = nxtN b at_ k ∧ (∀ j, j < k → (lebTake b (nxtN b at_ j)).2.2 = 0) ∧ (0 < k → x = (lebTake b (nxtN b at_ 0)).1) ∧ (1 < k → y = (lebTake b (nxtN b at_ 1)).1) ∧ (2 < k → z = (lebTake b (nxtN b at_ 2)).1)
theorem NumP.pos {b : List Int} {at_ : Int} {k : Nat} {x y z a : Int} (hb : Byt b) (h : NumP b at_ k x y z a) : a = at_ ∨ (0 ≤ a ∧ a ≤ b.length) := by
  obtain ⟨rfl, h1, _⟩ := h
  cases k with
  | zero => exact .inl rfl
  | succ k =>
    right
    have h2 := h1 k (by omega)
    obtain ⟨⟨v, n, e⟩, hq⟩ : ∃ r, lebTake b (nxtN b at_ k) = r := ⟨_, rfl⟩
    rw [nxtN]
    rw [hq] at h2 ⊢
    simp only at h2 ⊢
    subst h2
    obtain ⟨q0, q1, q2, _⟩ := lebTake_exact hb hq
    omega
theorem NumP.err {b : List Int} {at_ : Int} {k : Nat} {x y z a er : Int} (h : NumP b at_ k x y z a) (hk : k < 3) (he : (lebTake b a).2.2 = er) (h0 : er ≠ 0) (x' y' z' : Int) : nums3 b at_ x' y' z' 0 er := by
  obtain ⟨rfl, h1, _⟩ := h
  unfold nums3
  rcases (by omega : k = 0 ∨ k = 1 ∨ k = 2) with rfl | rfl | rfl
  · have e0 : (lebTake b at_).2.2 = er := he
    exact .inl ⟨by rw [e0]; exact h0, e0.symm, rfl⟩
  · have e0 : (lebTake b at_).2.2 = 0 := h1 0 (by omega)
    have e1 : (lebTake b (lebTake b at_).2.1).2.2 = er := he
    exact .inr (.inl ⟨e0, by rw [e1]; exact h0, e1.symm, rfl⟩)
  · have e0 : (lebTake b at_).2.2 = 0 := h1 0 (by omega)
    have e1 : (lebTake b (lebTake b at_).2.1).2.2 = 0 := h1 1 (by omega)
    have e2 : (lebTake b (lebTake b (lebTake b at_).2.1).2.1).2.2 = er := he
    exact .inr (.inr (.inl ⟨e0, e1, by rw [e2]; exact h0, e2.symm, rfl⟩))
theorem NumP.ok {b : List Int} {at_ : Int} {x y z a : Int} (h : NumP b at_ 3 x y z a) : nums3 b at_ x y z a 0 := by
  obtain ⟨rfl, h1, h2, h3, h4⟩ := h
  unfold nums3
  exact .inr (.inr (.inr ⟨h1 0 (by omega), h1 1 (by omega), h1 2 (by omega), rfl, h2 (by omega), h3 (by omega), h4 (by omega), rfl⟩))
theorem NumP.step {b : List Int} {at_ : Int} {k : Nat} {x y z a v a' : Int} (h : NumP b at_ k x y z a) (hk : k < 3) (hq : lebTake b a = (v, a', 0)) : NumP b at_ (k + 1) (if k = 0 then v else x) (if k = 1 then v else y) (if k = 2 then v else z) a' := by
  obtain ⟨rfl, h1, h2, h3, h4⟩ := h
  refine ⟨by rw [nxtN, hq], fun j hj => ?_, fun _ => ?_, fun _ => ?_, fun _ => ?_⟩
  · by_cases e : j = k
    · subst e; rw [hq]
    · exact h1 j (by omega)
  · by_cases e : k = 0
    · subst e; rw [if_pos rfl, hq]
    · rw [if_neg e]; exact h2 (by omega)
  · by_cases e : k = 1
    · subst e; rw [if_pos rfl, hq]
    · rw [if_neg e]; exact h3 (by omega)
  · by_cases e : k = 2
    · subst e; rw [if_pos rfl, hq]
    · rw [if_neg e]; exact h4 (by omega)
theorem set3 (x y z v : Int) (k : Nat) : (#[.int .u64 x, .int .u64 y, .int .u64 z] : Array Value).setIfInBounds k (.int .u64 v) = #[.int .u64 (if k = 0 then v else x), .int .u64 (if k = 1 then v else y), .int .u64 (if k = 2 then v else z)] := by
  rcases (by omega : k = 0 ∨ k = 1 ∨ k = 2 ∨ 3 ≤ k) with rfl | rfl | rfl | h
  · rfl
  · rfl
  · rfl
  · rw [if_neg (by omega), if_neg (by omega), if_neg (by omega)]
    simp [Array.setIfInBounds, show ¬ k < 3 by omega]

set_option maxRecDepth 100000 in
set_option maxHeartbeats 1600000 in
theorem numbers_any (A : Option Addr) (n c : Nat) (b : List Int) (at_ : Int) (w : World) (hr : Rd w A n b) (hb : Byt b) (hnc : n ≤ c) (hn : n ≤ 100000000) (h0 : -9223372036854775808 ≤ at_) (h1 : at_ ≤ 9223372036854775807) :
    Calls Try.prog 63 #[.slice A n c, .int .i64 at_] w (NumQ b at_ w) := by
  have hnl := hr.len
  have HR := Lib.hid hr
  have HBY := Lib.hid hb
  have HNL := Lib.hid hnl
  clear hr hb hnl
  go_enter Try.func63, Try.ntmps63
  go_wp2
  obtain ⟨nb, hnb⟩ : ∃ nb, w.heap.size = nb := ⟨_, rfl⟩
  have hbl := heap_alloc_new w (.cells #[.int .u64 0, .int .u64 0, .int .u64 0] 128)
  rw [hnb] at hbl ⊢
  have HNB := Lib.hid hnb
  have HBL := Lib.hid hbl
  clear hnb hbl
  go_loopw [1, 6, 8] (fun a er i wr => ∃ (k : Nat) (x y z a' : Int), i = .int .i64 (k : Int) ∧ k ≤ 3 ∧ er = .int .i64 0 ∧ a = .int .i64 a' ∧ wr.heap[nb]? = some (.cells #[.int .u64 x, .int .u64 y, .int .u64 z] 128) ∧ Grew w wr ∧ NumP b at_ k x y z a') (fun _ _ i _ => 3 - (intOf i).toNat)
  case atStart => exact ⟨0, 0, 0, 0, at_, rfl, by omega, rfl, rfl, HBL.out, (Grew.rf w).al _, rfl, fun j h => by omega, fun h => by omega, fun h => by omega, fun h => by omega⟩
  case round =>
    obtain ⟨k, x, y, z, a, rfl, hk, rfl, rfl, hbk, hgk, hN⟩ := hrel
    have hc0 := cell_of_heap (i := 0) hbk rfl
    have hc1 := cell_of_heap (i := 1) hbk rfl
    have hc2 := cell_of_heap (i := 2) hbk rfl
    have hpos := hN.pos HBY.out
    rw [HNL.out] at hpos
    by_cases hk3 : k < 3
    · obtain ⟨⟨v, a', er⟩, hq⟩ : ∃ r, lebTake b a = r := ⟨_, rfl⟩
      have htk := take_to4 A n c b a v a' er hq wr (HR.out.keep hgk) HBY.out hnc (by omega) (by omega) (by omega)
      have HTK := Lib.hid htk
      have HN := Lib.hid hN
      have HQ := Lib.hid hq
      have hck : wr.cell? ⟨nb, k, none⟩ = some (.int .u64 (if k = 0 then x else if k = 1 then y else z)) := by
        rcases (by omega : k = 0 ∨ k = 1 ∨ k = 2) with rfl | rfl | rfl
        · exact hc0
        · exact hc1
        · exact hc2
      have hfz := frozen_of_heap (i := k) hbk
      have hfz0 := frozen_of_heap (i := 0) hbk
      have hfz1 := frozen_of_heap (i := 1) hbk
      have hfz2 := frozen_of_heap (i := 2) hbk
      have hbs := setCell_heap_same hbk (i := k) (.int .u64 v)
      rw [set3] at hbs
      have hgs : Grew w (wr.setCell ⟨nb, k, none⟩ (.int .u64 v)) := hgk.st (by have := HNB.out; simp only; omega) _
      have HGS := Lib.hid hgs
      have HBS := Lib.hid hbs
      have hs0 := cell_of_heap (i := 0) hbs rfl
      have hs1 := cell_of_heap (i := 1) hbs rfl
      have hs2 := cell_of_heap (i := 2) hbs rfl
      have hsf := frozen_of_heap (i := 0) hbs
      simp only [List.getElem_toArray, List.getElem_cons_zero, List.getElem_cons_succ] at hs0 hs1 hs2
      generalize (if k = 0 then x else if k = 1 then y else z) = xk at hck
      generalize hx1 : (if k = 0 then v else x) = x1 at hs0 hs1 hs2 hbs HBS
      generalize hy1 : (if k = 1 then v else y) = y1 at hs0 hs1 hs2 hbs HBS
      generalize hz1 : (if k = 2 then v else z) = z1 at hs0 hs1 hs2 hbs HBS
      have HX1 := Lib.hid hx1
      have HY1 := Lib.hid hy1
      have HZ1 := Lib.hid hz1
      clear htk hq hN hc0 hc1 hc2 hbk hbs hgs hx1 hy1 hz1
      by_cases her : er = 0
      · subst her
        clear hs0 hs1 hs2 hsf
        go_wp2_with (go_at_call 59; refine Calls.mono HTK.out ?_; rintro e w' ⟨rfl, rfl⟩)
        go_roundw
        case rel =>
          have := HN.out.step hk3 HQ.out
          rw [HX1.out, HY1.out, HZ1.out] at this
          exact ⟨k + 1, x1, y1, z1, a', by go_num, by omega, rfl, rfl, HBS.out, HGS.out, this⟩
        case measure => simp [intOf]; omega
      · have hde : decide (er = 0) = false := decide_eq_false her
        obtain ⟨W1, hW1⟩ : ∃ W1, wr.setCell ⟨nb, k, none⟩ (.int .u64 v) = W1 := ⟨_, rfl⟩
        have ha0 := setCell_heap_same HBS.out (i := 0) (.int .u64 x1)
        rw [set3] at ha0
        have ha1 := setCell_heap_same ha0 (i := 1) (.int .u64 y1)
        rw [set3] at ha1
        have ha2 := setCell_heap_same ha1 (i := 2) (.int .u64 z1)
        rw [set3] at ha2
        have hgl := ((HGS.out.st (p := ⟨nb, 0, none⟩) (by have := HNB.out; simp only; omega) (.int .u64 x1)).st (p := ⟨nb, 1, none⟩) (by have := HNB.out; simp only; omega) (.int .u64 y1)).st (p := ⟨nb, 2, none⟩) (by have := HNB.out; simp only; omega) (.int .u64 z1)
        have hl0 := cell_of_heap (i := 0) ha2 rfl
        have hl1 := cell_of_heap (i := 1) ha2 rfl
        have hl2 := cell_of_heap (i := 2) ha2 rfl
        simp only [List.getElem_toArray, List.getElem_cons_zero, List.getElem_cons_succ, if_true, Nat.one_ne_zero, if_false, Nat.reduceEqDiff] at hl0 hl1 hl2
        have HGL := Lib.hid hgl
        clear ha0 ha1 ha2 hgl
        clear hW1 W1
        go_wp2_with (go_at_call 59; refine Calls.mono HTK.out ?_; rintro e w' ⟨rfl, rfl⟩)
        exact bodyPost_ret (v := .tuple #[.agg #[.int .u64 x1, .int .u64 y1, .int .u64 z1], .int .i64 0, .int .i64 er]) (by simp [results, Try.results63, go_sem, hl0, hl1, hl2]) rfl ⟨x1, y1, z1, 0, er, rfl, HGL.out, HN.out.err hk3 (by rw [HQ.out]) her _ _ _⟩
    · obtain rfl : k = 3 := by omega
      clear hk hk3
      have HN := Lib.hid hN
      clear hN
      have hfz0 := frozen_of_heap (i := 0) hbk
      have hfz1 := frozen_of_heap (i := 1) hbk
      have hfz2 := frozen_of_heap (i := 2) hbk
      have ha0 := setCell_heap_same hbk (i := 0) (.int .u64 x)
      rw [set3] at ha0
      have ha1 := setCell_heap_same ha0 (i := 1) (.int .u64 y)
      rw [set3] at ha1
      have ha2 := setCell_heap_same ha1 (i := 2) (.int .u64 z)
      rw [set3] at ha2
      have hgl := ((hgk.st (p := ⟨nb, 0, none⟩) (by have := HNB.out; simp only; omega) (.int .u64 x)).st (p := ⟨nb, 1, none⟩) (by have := HNB.out; simp only; omega) (.int .u64 y)).st (p := ⟨nb, 2, none⟩) (by have := HNB.out; simp only; omega) (.int .u64 z)
      have hl0 := cell_of_heap (i := 0) ha2 rfl
      have hl1 := cell_of_heap (i := 1) ha2 rfl
      have hl2 := cell_of_heap (i := 2) ha2 rfl
      simp only [List.getElem_toArray, List.getElem_cons_zero, List.getElem_cons_succ, if_true, Nat.one_ne_zero, if_false, Nat.reduceEqDiff] at hl0 hl1 hl2
      have HGL := Lib.hid hgl
      clear ha0 ha1 ha2 hgl hbk
      go_wp2
      exact bodyPost_ret (v := .tuple #[.agg #[.int .u64 x, .int .u64 y, .int .u64 z], .int .i64 a, .int .i64 0]) (by simp [results, Try.results63, go_sem, hl0, hl1, hl2]) rfl ⟨x, y, z, a, 0, rfl, HGL.out, HN.out.ok⟩
end Go.Proofs.Ytbkcpgaicoagfaa
/- Delta: the walk of fresh. -/
set_option linter.unusedVariables false
set_option linter.unusedSimpArgs false
namespace Go.Proofs.Ytbkcpgaicoagfaa
open Go.RowKit

/-- A row of headers that the call itself has made. -/
abbrev OwnH (w : World) (base : Nat) (v : Value) (l : List Hdr) : Prop := OwnV 124 2 w base v l.length (hcs l)
theorem OwnV.tabH {w : World} {base : Nat} {v : Value} {n : Nat} {vs : List Value} (h : OwnV 124 2 w base v n vs) {p : Nat} {lv : Value} {mb : Nat} {ts : List ByteArray} (hT : TabI w p lv mb ts) {k : Nat} (hk : v.ownBlock = some k) : ¬ ftp p lv mb k := by
  obtain ⟨cur, hc⟩ := h.block hk
  rintro (rfl | rfl | h2)
  · rw [hT.cells] at hc
    simp only [Option.some.injEq, Obj.cells.injEq] at hc
    exact absurd hc.2.1 (by decide)
  · obtain ⟨es, c, hm⟩ := hT.map.isMap
    rw [hm] at hc; cases hc
  · obtain ⟨cur2, hc2⟩ := hT.list.block h2
    rw [hc] at hc2
    simp only [Option.some.injEq, Obj.cells.injEq] at hc2
    exact absurd hc2.2.1 (by decide)
theorem rdV_lit2 (W : World) (x : Hdr) (t : TypeId) : RdH (W.alloc (.cells #[.string x.1, .string x.2] t)) (some ⟨W.heap.size, 0, none⟩) 1 [x] :=
  ⟨rfl, fun _ => ⟨_, 0, rfl, fun j u hj => by
    rcases (by have := (List.getElem?_eq_some_iff.1 hj).1; simp [hcs] at this; omega : j = 0 ∨ j = 1) with rfl | rfl
    · simp [hcs] at hj; subst hj; rw [World.cell?_alloc_new]; rfl
    · simp [hcs] at hj; subst hj; rw [World.cell?_alloc_new]; rfl⟩⟩
theorem rdV_lit2' {W : World} {k : Nat} (hk : W.heap.size = k) (x : Hdr) (t : TypeId) : RdH (W.alloc (.cells #[.string x.1, .string x.2] t)) (some ⟨k, 0, none⟩) 1 [x] := by
  subst hk
  exact rdV_lit2 W x t
theorem zero_hdr : (Value.agg #[.string ByteArray.empty, .string ByteArray.empty]).cells.size = 2 := by decide
/-- What fresh comes to. -/
def FreshQ (w : World) (p : Nat) (lv : Value) (mb : Nat) (z : List Hdr × Int × Int × List ByteArray) (e : Ending) (w' : World) : Prop :=
  ∃ v, e = .returned (.tuple #[v, .int .i64 z.2.1, .int .i64 z.2.2.1]) ∧ TakeQ w w' p lv mb z.2.2.2 ∧ (z.2.2.1 = 0 → OwnH w' w.heap.size v z.1) ∧ (z.2.2.1 ≠ 0 → v = .slice none 0 0)
theorem Chg.set {F : Nat → Prop} {w0 w : World} (h : Chg F w0 w) {a : Addr} (ha : w0.heap.size ≤ a.block) (v : Value) : Chg F w0 (w.setCell a v) :=
  h.tr (Chg.ofBy (setCell_by w a v) (fun b hb => by cases hb; exact .inr ha))

set_option maxRecDepth 100000 in
set_option maxHeartbeats 3200000 in
theorem dfresh_any (p : Nat) (lv : Value) (mb : Nat) (ts : List ByteArray) (A : Option Addr) (n c : Nat) (b : List Int) (at_ : Int) (many : Nat) (w : World) (hT : TabI w p lv mb ts) (hr : Rd w A n b) (hA : 0 < n → ∀ ad, A = some ad → ¬ ftp p lv mb ad.block) (hb : Byt b) (hnc : n ≤ c) (hc : c ≤ 9223372036854775807) (hn : n ≤ 100000000) (hf : ts.length + 2 * many < 1000000) (h0 : -9223372036854775808 ≤ at_) (h1 : at_ ≤ 9223372036854775807) :
    Calls Try.prog 64 #[.slice A n c, .int .i64 at_, .pointer (some ⟨p, 0, none⟩), .int .i64 (many : Int)] w (FreshQ w p lv mb (takeFs b many ts at_)) := by
  have HT := Lib.hid hT
  have HR := Lib.hid hr
  have HA := Lib.hid hA
  have HB := Lib.hid hb
  have hnl := hr.len
  have HNL := Lib.hid hnl
  clear hT hr hA hb hnl
  go_enter Try.func64, Try.ntmps64
  go_wp2
  go_loopw [1, 8, 10, 13] (fun a v er i wr => ∃ (k : Nat) (l : List Hdr) (us : List ByteArray) (l1 : Value) (a' : Int), i = .int .i64 (k : Int) ∧ k ≤ many ∧ a = .int .i64 a' ∧ er = .int .i64 0 ∧ OwnH wr w.heap.size v l ∧ TabI wr p l1 mb us ∧ (∀ j, ftp p l1 mb j → ftp p lv mb j ∨ w.heap.size ≤ j) ∧ Chg (ftp p lv mb) w wr ∧ us.length ≤ ts.length + 2 * k ∧ l.length = k ∧ -9223372036854775808 ≤ a' ∧ a' ≤ 9223372036854775807 ∧ RowKit.Hid (takeFs b many ts at_ = preFs l (takeFs b (many - k) us a'))) (fun _ _ _ i _ => many - (intOf i).toNat)
  case atStart => exact ⟨0, [], ts, lv, at_, rfl, Nat.zero_le _, rfl, rfl, OwnV.nil _ _ _ _, HT.out, fun j h => .inl h, Chg.of (Grew.rf w), by omega, rfl, h0, h1, (preFs_nil _ (takeFs_err b _ _ _)).symm⟩
  case round =>
    obtain ⟨k, l, us, l1, a', rfl, hk, rfl, rfl, hO, hT1, hF1, hC1, hul, hll, ha0, ha1, HZ⟩ := hrel
    have HO := Lib.hid hO
    have HT1 := Lib.hid hT1
    have HF1 := Lib.hid hF1
    have HC1 := Lib.hid hC1
    have HLL := Lib.hid hll
    clear hO hT1 hF1 hC1 hll
    by_cases hlt : k < many
    · obtain ⟨m, hm⟩ : ∃ m, many - k = m + 1 := ⟨many - k - 1, by omega⟩
      have HM := Lib.hid hm
      clear hm
      go_wp2_with fail
      -- the round's own block
      obtain ⟨hb, hhb⟩ : ∃ hb, wr.heap.size = hb := ⟨_, rfl⟩
      obtain ⟨W0, hW0⟩ : ∃ W0, wr.alloc (.cells #[.string ⟨#[]⟩, .string ⟨#[]⟩] 124) = W0 := ⟨_, rfl⟩
      have hcx := heap_alloc_new wr (.cells #[.string ⟨#[]⟩, .string ⟨#[]⟩] 124)
      have hgW : Grew wr W0 := by rw [← hW0]; exact (Grew.rf wr).al _
      have hsW : W0.heap.size = hb + 1 := by rw [← hW0, World.size_alloc, hhb]
      have hws := HC1.out.size
      rw [hhb, hW0] at hcx ⊢
      have hhF : ¬ ftp p l1 mb hb := fun h => by have := HT1.out.lt h; omega
      have hTW : TabI W0 p l1 mb us := HT1.out.keep hgW
      have hRW : Rd W0 A n b := (HR.out.chg HC1.out HA.out).keep hgW
      have hOW : OwnH W0 w.heap.size _ l := HO.out.keep hgW
      have hCW : Chg (ftp p lv mb) w W0 := HC1.out.tr (Chg.of hgW)
      obtain ⟨⟨s, nx, er, us1⟩, hq1⟩ : ∃ r, takeT us b a' = r := ⟨_, rfl⟩
      have hk1 := takeT_ok2 (ts := us) (at_ := a') HB.out
      rw [hq1, HNL.out] at hk1
      simp only at hk1
      have htk1 := ttake_to p l1 mb us A n c b a' s nx er us1 hq1 W0 hTW hRW HB.out hnc hc hn (by omega) ha0 ha1
      have HTK1 := Lib.hid htk1
      have HQ1 := Lib.hid hq1
      have HK1 := Lib.hid hk1
      have HHB := Lib.hid hhb
      have HCX := Lib.hid hcx
      have HSW := Lib.hid hsW
      have HOW := Lib.hid hOW
      have HCW := Lib.hid hCW
      have HRW := Lib.hid hRW
      have HHF := Lib.hid hhF
      have HCW1 : RowKit.Hid (Chg (ftp p l1 mb) wr W0) := Chg.of hgW
      clear htk1 hq1 hk1 hhb hW0 hcx hsW hOW hCW hRW hhF hTW hgW hws
      refine Calls.mono HTK1.out ?_
      rintro e w1 ⟨rfl, ⟨⟨l2, hT2, hF2⟩, hC2⟩⟩
      have hx1 := hC2.by_ HCX.out HHF.out
      have hs1 := hC2.size
      have hcl0 := cell_of_heap (i := 0) hx1 rfl
      have hfz0 := frozen_of_heap (i := 0) hx1
      -- the name is stored
      have hhF2 : ¬ ftp p l2 mb hb := fun h => (hF2 _ h).elim HHF.out (fun h => by have := HSW.out; omega)
      have hT3 : TabI (w1.setCell ⟨hb, 0, none⟩ (.string s)) p l2 mb us1 := hT2.chg (F := fun k => k = hb) (Chg.ofBy (setCell_by _ _ _) (fun b hb => by cases hb; rfl)) (fun k hk h => hhF2 (h ▸ hk))
      have hx2 := setCell_heap_same hx1 (i := 0) (.string s)
      have hx2' : (w1.setCell ⟨hb, 0, none⟩ (.string s)).heap[hb]? = some (.cells #[.string s, .string ⟨#[]⟩] 124) := hx2
      have hC3 : Chg (ftp p l1 mb) wr (w1.setCell ⟨hb, 0, none⟩ (.string s)) := (HCW1.out.tr (hC2.mono fun k hk => .inl hk)).set (by have := HHB.out; simp only; omega) _
      have hO3 : OwnH (w1.setCell ⟨hb, 0, none⟩ (.string s)) w.heap.size u8 l := HO.out.chg hC3 (fun k hk => HO.out.tabH HT1.out hk)
      have hs3 : W0.heap.size ≤ (w1.setCell ⟨hb, 0, none⟩ (.string s)).heap.size := by rw [setCell_size]; exact hs1
      have hCw3 : Chg (ftp p lv mb) w (w1.setCell ⟨hb, 0, none⟩ (.string s)) := HC1.out.tr (hC3.mono fun j hj => HF1.out j hj)
      have hFw2 : ∀ j, ftp p l2 mb j → ftp p lv mb j ∨ w.heap.size ≤ j := fun j hj => (hF2 j hj).elim (fun h => HF1.out j h) (fun h => by have := HCW.out.size; exact .inr (by omega))
      have HCw3 := Lib.hid hCw3
      have HFw2 := Lib.hid hFw2
      have HT3 := Lib.hid hT3
      have HO3 := Lib.hid hO3
      have HX2 := Lib.hid hx2'
      have HhF2 := Lib.hid hhF2
      have HS3 := Lib.hid hs3
      have HT2 := Lib.hid hT2
      have HC2 := Lib.hid hC2
      have HF2 := Lib.hid hF2
      simp only [List.getElem_toArray, List.getElem_cons_zero, List.getElem_cons_succ] at hcl0
      clear hCw3 hFw2 hT3 hO3 hx2 hx2' hhF2 hs3 hC3 hx1 hs1 hT2 hC2 hF2
      by_cases her : er = 0
      · subst her
        obtain ⟨⟨s2, nx2, er2, us2⟩, hq2⟩ : ∃ r, takeT us1 b nx = r := ⟨_, rfl⟩
        have hk2 := takeT_ok2 (ts := us1) (at_ := nx) HB.out
        rw [hq2, HNL.out] at hk2
        simp only at hk2
        have htk2 := ttake_to p l2 mb us1 A n c b nx s2 nx2 er2 us2 hq2 _ HT3.out (HR.out.chg HCw3.out HA.out) HB.out hnc hc hn (by have := HK1.out; omega) (by have := HK1.out; omega) (by have := HK1.out; omega)
        have HTK2 := Lib.hid htk2
        have HQ2 := Lib.hid hq2
        have HK2 := Lib.hid hk2
        clear htk2 hq2 hk2
        go_wp2_with fail
        refine Calls.mono HTK2.out ?_
        rintro e w4 ⟨rfl, ⟨⟨l4, hT4, hF4⟩, hC4⟩⟩
        have hx4 := hC4.by_ HX2.out HhF2.out
        have hs4 := hC4.size
        rw [setCell_size] at hs4
        have hcl4 := cell_of_heap (i := 1) hx4 rfl
        have hfz4 := frozen_of_heap (i := 1) hx4
        simp only [List.getElem_toArray, List.getElem_cons_zero, List.getElem_cons_succ] at hcl4
        have hhF4 : ¬ ftp p l4 mb hb := fun h => (hF4 _ h).elim HhF2.out (fun h => by have := HSW.out; have := HS3.out; omega)
        have hT5 : TabI (w4.setCell ⟨hb, 1, none⟩ (.string s2)) p l4 mb us2 := hT4.chg (F := fun k => k = hb) (Chg.ofBy (setCell_by _ _ _) (fun b hb => by cases hb; rfl)) (fun k hk h => hhF4 (h ▸ hk))
        have hx5 : (w4.setCell ⟨hb, 1, none⟩ (.string s2)).heap[hb]? = some (.cells #[.string s, .string s2] 124) := setCell_heap_same hx4 (i := 1) (.string s2)
        have hFw4 : ∀ j, ftp p l4 mb j → ftp p lv mb j ∨ w.heap.size ≤ j := fun j hj => (hF4 j hj).elim (fun h => HFw2.out j h) (fun h => by have h1 := HCw3.out.size; exact .inr (by omega))
        have hCw5 : Chg (ftp p lv mb) w (w4.setCell ⟨hb, 1, none⟩ (.string s2)) := (HCw3.out.tr (hC4.mono fun j hj => HFw2.out j hj)).set (by have := HHB.out; have := HC1.out.size; simp only; omega) _
        have hO4 : OwnH w4 w.heap.size u8 l := HO3.out.chg hC4 (fun k hk => HO3.out.tabH HT3.out hk)
        have hO5 : OwnH (w4.setCell ⟨hb, 1, none⟩ (.string s2)) w.heap.size u8 l := hO4.kept (setCell_by _ _ _) (fun b hb he => by cases hb; have h1 := HO.out.lt he; have h2 := HHB.out; simp only at h1; omega)
        have hsw5 : w.heap.size ≤ (w4.setCell ⟨hb, 1, none⟩ (.string s2)).heap.size := hCw5.size
        have hc50 := cell_of_heap (i := 0) hx5 rfl
        have hc51 := cell_of_heap (i := 1) hx5 rfl
        simp only [List.getElem_toArray, List.getElem_cons_zero, List.getElem_cons_succ] at hc50 hc51
        have HT5 := Lib.hid hT5
        have HFw4 := Lib.hid hFw4
        have HCw5 := Lib.hid hCw5
        have HO5 := Lib.hid hO5
        have HSW5 := Lib.hid hsw5
        clear hx4 hs4 hhF4 hT5 hx5 hFw4 hCw5 hO4 hO5 hsw5 hT4 hF4 hC4
        by_cases her2 : er2 = 0
        · subst her2
          go_wp2_with ((with_reducible refine gate_b .append #[.tmp 38, .tmp 40] _ rfl ?_); refine appV Try.underlying31 infoH zero_hdr (by decide) (by decide) (.inl rfl) rfl rfl rfl (HO5.out.keep ((Grew.rf _).al (.cells #[.string s, .string s2] 124))) (rdV_lit2' (setCell_size _ _ _) (s, s2) 124) (hcs_one _) (by have := HSW5.out; rw [World.size_alloc]; omega) (by have := HLL.out; omega) ?_; intro v6 w6 ho6 hg6 hat6)
          have hT6 : TabI w6 p l4 mb us2 := (HT5.out.keep ((Grew.rf _).al (.cells #[.string s, .string s2] 124))).chg (Chg.ofBy (F := fun k => u8.ownBlock = some k) hg6 (fun b hb => hb)) (fun k hk h => (HO5.out.keep ((Grew.rf _).al (.cells #[.string s, .string s2] 124))).tabH (HT5.out.keep ((Grew.rf _).al _)) h hk)
          have hC6 : Chg (ftp p lv mb) w w6 := (HCw5.out.tr (Chg.of ((Grew.rf _).al (.cells #[.string s, .string s2] 124)))).tr (Chg.ofBy hg6 (fun b hb => .inr (HO5.out.base_le b hb)))
          have HT6 := Lib.hid hT6
          have HC6 := Lib.hid hC6
          have HO6 := Lib.hid ho6
          clear hT6 hC6 hg6 hat6 ho6
          go_roundw
          case rel =>
            have hl := HLL.out
            have hm := HM.out
            have h1 := HK1.out
            have h2 := HK2.out
            refine ⟨k + 1, l ++ [(s, s2)], us2, l4, nx2, by go_num, by omega, rfl, rfl, ?_, HT6.out, HFw4.out, HC6.out, by omega, by simp [hl], by omega, by omega, ?_⟩
            · show OwnV _ _ _ _ _ _ _
              rw [List.length_append, hcs_append]
              exact HO6.out
            · show _ = _
              rw [HZ.out, hm, takeFs_ok HQ1.out HQ2.out, preFs_preFs, show many - (k + 1) = m by omega]
          case measure => simp [intOf]; omega
        · have hde : decide (er2 = 0) = false := decide_eq_false her2
          have hz : takeFs b many ts at_ = ([], 0, er2, us2) := by
            rw [HZ.out, HM.out, takeFs_e2 HQ1.out HQ2.out her2, preFs]
            simp only
            rw [if_pos her2]
          have HZZ := Lib.hid hz
          clear hz
          go_wp2_with fail
          go_ret3
          rw [HZZ.out]
          exact ⟨_, rfl, ⟨⟨l4, HT5.out, HFw4.out⟩, HCw5.out⟩, fun h => absurd h her2, fun _ => rfl⟩
      · have hde : decide (er = 0) = false := decide_eq_false her
        have hz : takeFs b many ts at_ = ([], 0, er, us1) := by
          rw [HZ.out, HM.out, takeFs_e1 HQ1.out her, preFs]
          simp only
          rw [if_pos her]
        have HZZ := Lib.hid hz
        clear hz
        go_wp2_with fail
        go_ret3
        rw [HZZ.out]
        exact ⟨_, rfl, ⟨⟨l2, HT3.out, HFw2.out⟩, HCw3.out⟩, fun h => absurd h her, fun _ => rfl⟩
    · obtain rfl : k = many := by omega
      have hz : takeFs b k ts at_ = (l, a', 0, us) := by
        rw [HZ.out, Nat.sub_self, takeFs, preFs]
        simp
      have HZZ := Lib.hid hz
      clear hz
      go_wp2_with fail
      go_ret3
      rw [HZZ.out]
      exact ⟨_, rfl, ⟨⟨l1, HT1.out, HF1.out⟩, HC1.out⟩, fun _ => HO.out, fun h => absurd rfl h⟩
end Go.Proofs.Ytbkcpgaicoagfaa
