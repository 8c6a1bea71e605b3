/- Delta: the walk of the answer's Put. -/
import Derived.Test.YtbkcpgaicoagfaaDel3
set_option linter.unusedVariables false
set_option linter.unusedSimpArgs false
namespace Go.Proofs.Ytbkcpgaicoagfaa
open Go.RowKit

/-- Of what lay in w0 only the answer's table's may have changed. -/
def GPR (w0 : World) (p : Nat) (lv : Value) (u u' : World) : Prop := Chg (fun k => ftr p lv k ∨ w0.heap.size ≤ k) u u'
structure PairR (w0 : World) (p : Nat) (lv : Value) (u : World) : Prop where
  chg : Chg (ftr p lv) w0 u
theorem PairR.b0 {w0 u u' : World} {p : Nat} {lv : Value} (h : PairR w0 p lv u) (hg : Grew u u') : PairR w0 p lv u' := ⟨h.chg.tr (Chg.of hg)⟩
theorem PairR.b1 {w0 u u' : World} {p : Nat} {lv : Value} (h : PairR w0 p lv u) (hg : GPR w0 p lv u u') : PairR w0 p lv u' := ⟨h.chg.tr hg⟩
def pxRP (w0 : World) (p : Nat) (lv : Value) (out : List Int) (ts' : List ByteArray) : Px (GPR w0 p lv) (GPR w0 p lv) where
  p := RPutW w0 p lv out ts'
  s1 := false
  s2 := false
  m0 := fun v u u' ⟨B, m, d, h1, h2, h3, h4, h5, h6, l1, h7, h8⟩ hg => ⟨B, m, d, h1, h2.keep hg, h3, h4, h5, h6.keep hg, l1, h7.keep hg, h8⟩
  m1 := fun h => by cases h
  m2 := fun h => by cases h
theorem GPR.of1 {w0 u u' : World} {p : Nat} {lv : Value} {out : List Int} {ts' : List ByteArray} {B : Option Addr} {m d : Nat} (h : RPutQ u u' p lv out ts' B m d) : GPR w0 p lv u u' := h.chg.mono (fun k hk => .inl hk)
theorem GPR.of2 {w0 u u' : World} {p : Nat} {lv l1 : Value} {out : List Int} {ts' : List ByteArray} {B : Option Addr} {m d : Nat} (h : RPutQ u u' p l1 out ts' B m d) (hf : ∀ k, ftr p l1 k → ftr p lv k ∨ w0.heap.size ≤ k) : GPR w0 p lv u u' := h.chg.mono hf
theorem RPutW.of2 {w0 u u' : World} {p : Nat} {lv lv1 : Value} {out : List Int} {ts' : List ByteArray} {B : Option Addr} {m d : Nat} (h : RPutQ u u' p lv1 out ts' B m d) (hw : w0.heap.size ≤ u.heap.size) (hf : ∀ k, ftr p lv1 k → ftr p lv k ∨ w0.heap.size ≤ k) : RPutW w0 p lv out ts' (.slice B m d) u' := by
  obtain ⟨l1, hT, hf1, _⟩ := h.tab
  exact ⟨B, m, d, rfl, h.rd, h.le, h.cap, h.fresh.mono hw, h.u8, l1, hT, fun k hk => (hf1 k hk).elim (fun h => hf k h) (fun h => .inr (by omega))⟩

set_option maxRecDepth 100000 in
set_option maxHeartbeats 3200000 in
theorem rdput_any (p : Nat) (lv : Value) (ts : List ByteArray) (A0 : Option Addr) (n0 c0 : Nat) (bs : List Int) (A : Option Addr) (n c : Nat) (was : List Hdr) (B : Option Addr) (m d : Nat) (list : List Hdr) (w : World)
    (hT : RefI w p lv ts) (hb : Rd w A0 n0 bs) (hr : RdH w A n was) (hs : RdH w B m list) (hB : 0 < m → ∀ ad, B = some ad → ¬ ftr p lv ad.block)
    (hn : n ≤ 1000) (hm : m ≤ 1000) (hn0 : n0 ≤ 10000000) (hz : ∀ h ∈ list, h.1.size ≤ 10000 ∧ h.2.size ≤ 10000) (hf : ts.length + 2 * m < 1000000) :
    Calls Try.prog 32 #[.slice A0 n0 c0, .pointer (some ⟨p, 0, none⟩), .slice A n c, .slice B m d] w fun e w' => ∃ B' m' d', e = .returned (.slice B' m' d') ∧ RPutQ w w' p lv (bs ++ (putD ts was list).1) (putD ts was list).2 B' m' d' := by
  have hl1 := hr.lenH
  have hl2 := hs.lenH
  have hle := endsB_le was list
  have hends := fun (u : World) (h1 : RdH u A n was) (h2 : RdH u B m list) => rends_any A n c was B m d list u h1 h2 (by omega) (by omega)
  obtain ⟨f, hf1⟩ : ∃ f, endsA was list = f := ⟨_, rfl⟩
  obtain ⟨g, hg1⟩ : ∃ g, endsB was list = g := ⟨_, rfl⟩
  obtain ⟨fr, hfr⟩ : ∃ fr, freshD was list = fr := ⟨_, rfl⟩
  have hfl := freshD_len was list
  have hfd : (list.take (m - g)).drop f = fr := by rw [← hfr, freshD, hf1, hg1, hl2]
  unfold putD
  rw [hf1, hg1] at hends hle hfl
  rw [hf1, hg1]
  rw [hfr] at hfl ⊢
  rw [hl1, hl2] at hle
  rw [hl2] at hfl
  obtain ⟨q, hq⟩ : ∃ q, m - g - f = q := ⟨_, rfl⟩
  have hfl2 : fr.length = q := by omega
  rw [hfl2]
  have hle1 : f + g ≤ m := hle.2
  have hmq : q + f + g = m := by omega
  have hfg : ∀ k, k < q → fr[k]? = list[f + k]? := fun k hk => by
    rw [← hfd, List.getElem?_drop, List.getElem?_take, if_pos (by omega)]
  have HFG := Lib.hid hfg
  have hbF := fun (u : World) => bytes_any (f : Int) u (by omega) (by omega)
  have hbG := fun (u : World) => bytes_any (g : Int) u (by omega) (by omega)
  have hbQ := fun (u : World) => bytes_any ((m : Int) - (f : Int) - (g : Int)) u (by omega) (by omega)
  rw [show leb ((m : Int) - (f : Int) - (g : Int)) = leb (q : Int) by congr 1; omega] at hbQ
  have hlf := leb_len (v := (f : Int)) (by omega)
  have hlg := leb_len (v := (g : Int)) (by omega)
  have hlq := leb_len (v := (q : Int)) (by omega)
  obtain ⟨pb, hpb⟩ : ∃ pb, leb (f : Int) ++ (leb (g : Int) ++ leb (q : Int)) = pb := ⟨_, rfl⟩
  have hpp : ∀ x : List Int, bs ++ (leb (f : Int) ++ (leb (g : Int) ++ (leb (q : Int) ++ x))) = (bs ++ pb) ++ x := fun x => by rw [← hpb]; simp only [List.append_assoc]
  have hp3 : ((bs ++ leb (f : Int)) ++ leb (g : Int)) ++ leb (q : Int) = bs ++ pb := by rw [← hpb]; simp only [List.append_assoc]
  have hpl : pb.length ≤ 30 := by rw [← hpb]; simp only [List.length_append]; omega
  rw [hpp]
  have hbl := hb.len
  obtain ⟨lf, hlf2⟩ : ∃ l, leb (f : Int) = l := ⟨_, rfl⟩
  obtain ⟨lg, hlg2⟩ : ∃ l, leb (g : Int) = l := ⟨_, rfl⟩
  obtain ⟨lq, hlq2⟩ : ∃ l, leb (q : Int) = l := ⟨_, rfl⟩
  rw [hlf2] at hbF hlf hp3
  rw [hlg2] at hbG hlg hp3
  rw [hlq2] at hbQ hlq hp3
  obtain ⟨n1, hn1⟩ : ∃ n1, bs.length = n1 := ⟨_, rfl⟩
  obtain ⟨n2, hn2⟩ : ∃ n1, (bs ++ lf).length = n1 := ⟨_, rfl⟩
  obtain ⟨n3, hn3⟩ : ∃ n1, (bs ++ lf ++ lg).length = n1 := ⟨_, rfl⟩
  obtain ⟨f1, hf1'⟩ : ∃ n1, lf.length = n1 := ⟨_, rfl⟩
  obtain ⟨g1, hg1'⟩ : ∃ n1, lg.length = n1 := ⟨_, rfl⟩
  obtain ⟨q1, hq1'⟩ : ∃ n1, lq.length = n1 := ⟨_, rfl⟩
  have hnn : n2 ≤ 10000010 ∧ n3 ≤ 10000020 ∧ f1 ≤ 10 ∧ g1 ≤ 10 ∧ q1 ≤ 10 := by
    simp only [List.length_append] at hn2 hn3
    omega
  have HN1 := Lib.hid hn1
  have HN2 := Lib.hid hn2
  have HN3 := Lib.hid hn3
  have HF1 := Lib.hid hf1'
  have HG1 := Lib.hid hg1'
  have HQ1 := Lib.hid hq1'
  have HP3 := Lib.hid hp3
  have HPL := Lib.hid hpl
  have HBF := Lib.hid hbF
  have HBG := Lib.hid hbG
  have HBQ := Lib.hid hbQ
  have HT := Lib.hid hT
  have HB := Lib.hid hb
  have HRD := Lib.hid hr
  have HSD := Lib.hid hs
  have HE := Lib.hid hends
  have HL := Lib.hid hfl2
  have HLL := Lib.hid hl2
  have HMQ := Lib.hid hmq
  have HBB := Lib.hid hB
  have HZ : RowKit.Hid (∀ h ∈ fr, h.1.size ≤ 10000 ∧ h.2.size ≤ 10000) := fun h hh => hz h (by rw [← hfd] at hh; exact List.mem_of_mem_take (List.mem_of_mem_drop hh))
  have hqm : q ≤ m := by omega
  have HB0 : RowKit.Hid (bs.length = n0) := hbl
  clear hl1 hl2 hle hends hf1 hg1 hfr hfl hfd hq hfl2 hT hb hr hs hB hz hmq hfg hbF hbG hbQ hlf hlg hlq hpb hpp hp3 hpl hbl hlf2 hlg2 hlq2 hn1 hn2 hn3 hf1' hg1' hq1'
  go_enter Try.func32, Try.ntmps32
  go_wp2_with (first | (go_at_call 62; refine Calls.mono (HE.out _ HRD.out HSD.out) ?_; rintro e w1 ⟨rfl, hg1⟩) | ((with_reducible refine gate_b .append #[.tmp 19, .tmp 20] _ rfl ?_); refine apps (w0 := w) rfl rfl rfl rfl ((own_lit0 w1).lower hg1.size) ((HB.out.keep hg1).al _) (hg1.al _) (by simp; have := hg1.size; omega) (by simp; omega) ?_; intro v2 w2 ho2 hg2 hb2; rw [List.nil_append] at ho2) | (go_at_call 48; refine Calls.mono (HBF.out _) ?_; rintro e w3 ⟨v3, rfl, ho3, hg3⟩; clear HBF; obtain ⟨A3, c3, rfl, hc3, hm3, hr3⟩ := ho3.rd' HF1.out) | ((with_reducible refine gate_b .append #[.tmp 21, .tmp 24] _ rfl ?_); refine apps (w0 := w) rfl rfl rfl rfl (ho2.keep hg3) hr3 (hg2.trans (hg3.mono hb2)) (by have := hg3.size; omega) (by rw [HN1.out]; have := HB0.out; have := HN1.out; omega) ?_; intro v4 w4 ho4 hg4 hb4) | (go_at_call 48; refine Calls.mono (HBG.out _) ?_; rintro e w5 ⟨v5, rfl, ho5, hg5⟩; clear HBG; obtain ⟨A5, c5, rfl, hc5, hm5, hr5⟩ := ho5.rd' HG1.out) | ((with_reducible refine gate_b .append #[.tmp 25, .tmp 28] _ rfl ?_); refine apps (w0 := w) rfl rfl rfl rfl (ho4.keep hg5) hr5 (hg4.trans (hg5.mono hb4)) (by have := hg5.size; omega) (by rw [HN2.out]; omega) ?_; intro v6 w6 ho6 hg6 hb6) | (go_at_call 48; refine Calls.mono (HBQ.out _) ?_; rintro e w7 ⟨v7, rfl, ho7, hg7⟩; clear HBQ; obtain ⟨A7, c7, rfl, hc7, hm7, hr7⟩ := ho7.rd' HQ1.out) | ((with_reducible refine gate_b .append #[.tmp 30, .tmp 38] _ rfl ?_); refine apps (w0 := w) rfl rfl rfl rfl (ho6.keep hg7) hr7 (hg6.trans (hg7.mono hb6)) (by have := hg7.size; omega) (by rw [HN3.out]; omega) ?_; intro v8 w8 ho8 hg8 hb8))
  rw [HP3.out] at ho8
  have hG8 : Grew w w8 := hg8
  obtain ⟨A8, c8, rfl, hc8, hm8, hr8⟩ := ho8.rd
  obtain ⟨n8, hn8⟩ : ∃ n8, (bs ++ pb).length = n8 := ⟨_, rfl⟩
  rw [hn8] at hr8 ho8 hc8 ⊢
  have hI0 : RPutQ w w8 p lv (bs ++ pb) ts A8 n8 c8 := ⟨hr8, hc8, hm8, ho8.fresh, ho8.u8, ⟨lv, HT.out.keep hG8, fun k h => .inl h, fun ad e h => by have := ho8.fresh ad e; have := HT.out.lt h; omega⟩, Chg.of hG8⟩
  have HI0 := Lib.hid hI0
  clear hI0 hr8 hc8 hm8 ho8 hG8 hg8 hb8 hn8 ho6 hg6 hb6 ho7 hg7 hr7 hc7 hm7 ho5 hg5 hr5 hc5 hm5 ho4 hg4 hb4 ho3 hg3 hc3 hm3 hr3 ho2 hg2 hb2 hg1 hnn
  go_loopw [11, 12] (fun b i wr => ∃ (k e : Nat) (B' : Option Addr) (m' d' : Nat), i = .int .i64 (e : Int) ∧ RowKit.Hid (e = f + k) ∧ e + g ≤ m ∧ b = .slice B' m' d' ∧ RPutQ w wr p lv ((bs ++ pb) ++ (putFs ts (fr.take k)).1) (putFs ts (fr.take k)).2 B' m' d') (fun _ i _ => m - (intOf i).toNat)
  case atStart => exact ⟨0, f, A8, n8, c8, rfl, Lib.hid rfl, hle1, rfl, by simpa [putFs] using HI0.out⟩
  case round =>
    rename_i hrel0
    obtain ⟨k, e, B', m', d', rfl, he, heg, rfl, hQ⟩ := hrel
    have HQ := Lib.hid hQ
    clear hQ HI0
    by_cases hlt : e + g < m
    · have hkq : k < q := by have := he.out; have := HMQ.out; omega
      have hem : e < m := by omega
      obtain ⟨x, hx⟩ : ∃ x, fr[k]? = some x := ⟨_, List.getElem?_eq_getElem (by rw [HL.out]; exact hkq)⟩
      have hR := HSD.out.chg HQ.out.chg HBB.out
      obtain ⟨b1, o1, x', hA, hx', ha1, ha2⟩ := hR.atH hem
      have hxx := HFG.out k hkq
      rw [hx, ← he.out, hx'] at hxx
      obtain rfl := Option.some.inj hxx
      have hsn := putFs_snoc (fr.take k) ts x
      have htk : fr.take k ++ [x] = fr.take (k + 1) := by
        have h2 := (List.getElem?_eq_some_iff.1 hx).2
        rw [← h2, List.take_append_getElem]
      rw [htk] at hsn
      have hzx := HZ.out x (List.mem_of_getElem? hx)
      have hlk := putFs_len (fr.take k) ts (fun h hh => HZ.out h (List.mem_of_mem_take hh)) (by rw [List.length_take, HL.out]; omega)
      rw [List.length_take, HL.out] at hlk
      have hpbl := HPL.out
      obtain ⟨o, ho⟩ : ∃ o, (bs ++ pb) ++ (putFs ts (fr.take k)).1 = o := ⟨_, rfl⟩
      obtain ⟨us, hus⟩ : ∃ us, (putFs ts (fr.take k)).2 = us := ⟨_, rfl⟩
      have hml := HQ.out.rd.len
      have hbl := HB.out.len
      have hmm : m' ≤ 50000000 := by
        rw [← hml]
        simp only [List.length_append]; omega
      have HQ2 : RowKit.Hid (RPutQ w wr p lv o us B' m' d') := by rw [← ho, ← hus]; exact HQ.out
      rw [hus] at hsn hlk
      have hul : us.length + 2 ≤ 1000000 := by omega
      obtain ⟨us1, hus1⟩ : ∃ us1, (putT us x.1).2 = us1 := ⟨_, rfl⟩
      obtain ⟨us2, hus2⟩ : ∃ us2, (putT us1 x.2).2 = us2 := ⟨_, rfl⟩
      have hp1 := putT_len2 us x.1 (by omega) (by omega)
      rw [hus1] at hp1
      obtain ⟨o1', ho1⟩ : ∃ o1', o ++ (putT us x.1).1 = o1' := ⟨_, rfl⟩
      obtain ⟨o2', ho2⟩ : ∃ o2', o1' ++ (putT us1 x.2).1 = o2' := ⟨_, rfl⟩
      have hm2 : o1'.length ≤ 60000000 := by
        have h1 := HQ2.out.rd.len
        rw [← ho1, List.length_append, h1]; omega
      obtain ⟨l1, hT1, hf1, _⟩ := HQ2.out.tab
      have hP1 := fun (u : World) (h : RefI u p l1 us) (h2 : Rd u B' m' o) => rput_any p l1 us x.1 B' m' d' o u h h2 (by omega) (by omega) (by omega)
      have hP2 := fun (u : World) (l : Value) (A : Option Addr) (n c : Nat) (h : RefI u p l us1) (h2 : Rd u A n o1') => rput_any p l us1 x.2 A n c o1' u h h2 (by omega) (by have := h2.len; omega) (by omega)
      rw [ho1, hus1] at hP1
      rw [ho2, hus2] at hP2
      have HE1 : RowKit.Hid (o2' = (bs ++ pb) ++ (putFs ts (fr.take (k + 1))).1 ∧ us2 = (putFs ts (fr.take (k + 1))).2) := by
        rw [hsn]
        refine ⟨?_, ?_⟩
        · rw [← ho2, ← ho1, ← ho, hus1]; simp only [List.append_assoc]
        · rw [← hus2, ← hus1]
      have hT0 : RefI wr p l1 us ∧ Rd wr B' m' o := ⟨hT1, HQ2.out.rd⟩
      have hhF : ¬ ftr p l1 b1 := fun h => by
        have h2 := HBB.out (by omega) _ hA
        rcases hf1 _ h with h | h
        · exact h2 h
        · have hl := HSD.out.atH hem
          obtain ⟨b3, o3, x3, hA3, _, ha3, _⟩ := hl
          rw [hA] at hA3
          cases hA3
          have := lt_of_cell ha3
          simp only at this
          omega
      have hcu : ∀ u, PairR wr p l1 u → u.cell? ⟨b1, o1 + e * 2, none⟩ = some (.string x.1) ∧ u.cell? ⟨b1, o1 + e * 2 + 1, none⟩ = some (.string x.2) := fun u h =>
        ⟨(World.cell?_of_block (h.chg.block b1 (lt_of_cell ha1) hhF)).trans ha1, (World.cell?_of_block (h.chg.block b1 (lt_of_cell ha1) hhF)).trans ha2⟩
      have HCU := Lib.hid hcu
      have HP1 := Lib.hid hP1
      have HP2 := Lib.hid hP2
      have HT1 := Lib.hid hT1
      have HF1 := Lib.hid hf1
      obtain ⟨hs1, hs2⟩ := hzx
      subst hA
      clear hsn htk hx ho hus hml hbl hlk hpbl hus1 hus2 ho1 ho2 hP1 hP2 hT1 hf1 hp1 HQ hR hx' hul hmm hm2 ha1 ha2 hcu hhF
      have hS : TwoK false true (GPR wr p l1) (GPR wr p l1) (fun u => RefI u p l1 us ∧ Rd u B' m' o) (fun _ => True) (PairR wr p l1) :=
        ⟨fun _ _ h hg => h.b0 hg, fun _ _ h hg => h.b1 hg, fun _ _ h hg => h.b1 hg, fun _ _ h hg => ⟨h.1.keep hg, h.2.keep hg⟩, (fun h => by cases h), (fun _ _ _ _ => trivial), (fun _ _ _ _ _ => trivial)⟩
      have hB0 : PairR wr p l1 wr := ⟨Chg.of (Grew.rf wr)⟩
      go_wp2_with fail
      refine region_twok 8 14 hS hB0 hT0 trivial [(14, 8)] [[], [], [], [], [], [(3, 52), (4, 53)], [(5, 54)], [(6, 55)], [(1, 50), (2, 51), (7, 56)], [], [], [(9, 58), (10, 59)], [(11, 60)], [(12, 61)], [(0, 49), (8, 57), (13, 62)], [(2, 51), (14, 63)]] [(0, 49), (1, 50), (2, 51), (3, 52), (4, 53), (5, 54), (6, 55), (7, 56), (8, 57), (9, 58), (10, 59), (11, 60), (12, 61), (13, 62), (14, 63), (15, 11)] (fun
        | 0 => .eqv (.pointer (some ⟨p, 0, none⟩)) | 1 => .eqv (.pointer (some ⟨p, 0, none⟩)) | 2 => .eqv (.slice B' m' d') | 3 => .eqv (.slice (some ⟨b1, o1, none⟩) m d) | 4 => .eqv (.int .i64 (e : Int)) | 5 => .eqv (.pointer (some ⟨b1, o1 + e * 2, none⟩)) | 6 => .eqv (.pointer (some ⟨b1, o1 + e * 2, none⟩)) | 7 => .eqv (.string x.1) | 8 => pxRP wr p l1 o1' us1 | 9 => .eqv (.slice (some ⟨b1, o1, none⟩) m d) | 10 => .eqv (.int .i64 (e : Int)) | 11 => .eqv (.pointer (some ⟨b1, o1 + e * 2, none⟩)) | 12 => .eqv (.pointer (some ⟨b1, o1 + e * 2 + 1, none⟩)) | 13 => .eqv (.string x.2) | 14 => pxRP wr p l1 o2' us2 | 15 => pxRP wr p l1 o2' us2 | _ => .any) rfl (by kernel_rfl) (by kernel_rfl) ?_ ?_
      · refine ⟨fun u hu hx => ?_, fun u hu hx => ?_, fun u hu hx => ?_, fun u hu hx => ?_, fun u hu hx => ?_, fun u hu hx => ?_, fun u hu hx => ?_, fun u hu hx => ?_, fun u hu hx => ?_, fun u hu hx => ?_, fun u hu hx => ?_, fun u hu hx => ?_, fun u hu hx => ?_, fun u hu hx => ?_, fun u hu hx => ?_, fun u hu hx => ?_, trivial⟩
        · refine StepGoal.nil ?_
          go_wp2
          exact ⟨rfl, rfl, Grew.rf _, rfl⟩
        · refine StepGoal.nil ?_
          go_wp2
          exact ⟨rfl, rfl, Grew.rf _, rfl⟩
        · refine StepGoal.nil ?_
          go_wp2
          exact ⟨rfl, rfl, Grew.rf _, rfl⟩
        · refine StepGoal.nil ?_
          go_wp2
          exact ⟨rfl, rfl, Grew.rf _, rfl⟩
        · refine StepGoal.nil ?_
          go_wp2
          exact ⟨rfl, rfl, Grew.rf _, rfl⟩
        · rintro _ rfl _ rfl
          refine StepGoal.nil ?_
          simp only [Act.put, List.setIfInBounds_toArray, List.set_cons_zero, List.set_cons_succ]
          go_wp2
          exact ⟨rfl, rfl, Grew.rf _, rfl⟩
        · rintro _ rfl
          refine StepGoal.nil ?_
          simp only [Act.put, List.setIfInBounds_toArray, List.set_cons_zero, List.set_cons_succ]
          go_wp2
          exact ⟨rfl, rfl, Grew.rf _, rfl⟩
        · rintro _ rfl
          have hce := (HCU.out u hu).1
          refine StepGoal.nil ?_
          simp only [Act.put, List.setIfInBounds_toArray, List.set_cons_zero, List.set_cons_succ]
          go_wp2
          exact ⟨rfl, rfl, Grew.rf _, rfl⟩
        · rintro _ rfl _ rfl _ rfl
          have hx1 : RefI u p l1 us ∧ Rd u B' m' o := hx
          refine StepGoal.nil ?_
          simp only [Act.put, List.setIfInBounds_toArray, List.set_cons_zero, List.set_cons_succ]
          go_wp2_with (go_at_call 24; refine Calls.mono (HP1.out _ hx1.1 hx1.2) ?_; rintro e w' ⟨B, m, d, rfl, Q⟩)
          exact ⟨rfl, rfl, GPR.of1 Q, RPutW.of Q hu.chg.size⟩
        · refine StepGoal.nil ?_
          go_wp2
          exact ⟨rfl, rfl, Grew.rf _, rfl⟩
        · refine StepGoal.nil ?_
          go_wp2
          exact ⟨rfl, rfl, Grew.rf _, rfl⟩
        · rintro _ rfl _ rfl
          refine StepGoal.nil ?_
          simp only [Act.put, List.setIfInBounds_toArray, List.set_cons_zero, List.set_cons_succ]
          go_wp2
          exact ⟨rfl, rfl, Grew.rf _, rfl⟩
        · rintro _ rfl
          refine StepGoal.nil ?_
          simp only [Act.put, List.setIfInBounds_toArray, List.set_cons_zero, List.set_cons_succ]
          go_wp2
          exact ⟨rfl, rfl, Grew.rf _, rfl⟩
        · rintro _ rfl
          have hce := (HCU.out u hu).2
          refine StepGoal.nil ?_
          simp only [Act.put, List.setIfInBounds_toArray, List.set_cons_zero, List.set_cons_succ]
          go_wp2
          exact ⟨rfl, rfl, Grew.rf _, rfl⟩
        · rintro _ rfl v57 h57 _ rfl
          obtain ⟨B5, m5, d5, rfl, r5, _, _, _, q5, l5, T5, f5⟩ : RPutW wr p l1 o1' us1 v57 u := h57
          refine StepGoal.nil ?_
          simp only [Act.put, List.setIfInBounds_toArray, List.set_cons_zero, List.set_cons_succ]
          go_wp2_with (go_at_call 24; refine Calls.mono (HP2.out _ l5 B5 m5 d5 T5 r5) ?_; rintro e w' ⟨B, m, d, rfl, Q⟩)
          exact ⟨rfl, rfl, GPR.of2 Q f5, RPutW.of2 Q hu.chg.size f5⟩
        · rintro _ rfl v63 h63
          refine StepGoal.nil ?_
          simp only [Act.put, List.setIfInBounds_toArray, List.set_cons_zero, List.set_cons_succ]
          go_wp2
          exact ⟨rfl, rfl, Grew.rf _, h63⟩
      · intro u hu
        rintro _ rfl _ rfl _ rfl _ rfl _ rfl _ rfl _ rfl _ rfl v57 _ _ rfl _ rfl _ rfl _ rfl _ rfl v63 h63 v11 h11
        refine StepGoal.nil ?_
        simp only [Act.put, List.setIfInBounds_toArray, List.set_cons_zero, List.set_cons_succ]
        obtain ⟨B6, m6, d6, rfl, r6, e6, c6, s6, q6, l6, T6, f6⟩ : RPutW wr p l1 o2' us2 v11 u := h11
        have hchg := HQ2.out.chg
        have hws := hchg.size
        have hN : RPutQ w u p lv ((bs ++ pb) ++ (putFs ts (fr.take (k + 1))).1) (putFs ts (fr.take (k + 1))).2 B6 m6 d6 := by
          rw [← HE1.out.1, ← HE1.out.2]
          refine ⟨r6, e6, c6, s6.mono (by omega), q6, ⟨l6, T6, fun j hj => ?_, fun ad e => q6.ref T6 ad e⟩, hchg.tr (hu.chg.mono fun j hj => HF1.out j hj)⟩
          rcases f6 j hj with h | h
          · exact HF1.out j h
          · exact .inr (by omega)
        have HN := Lib.hid hN
        clear hN hchg hws r6 e6 c6 s6 q6 T6 f6 hu hS hT0 hB0
        go_wp2_with fail
        go_roundw
        case rel => exact ⟨k + 1, e + 1, B6, m6, d6, by go_num, Lib.hid (by have := he.out; omega), by omega, rfl, HN.out⟩
        case measure => simp [intOf]; omega
    · have hfin : fr.take k = fr := List.take_of_length_le (by rw [HL.out]; have := he.out; have := HMQ.out; omega)
      have HFIN := Lib.hid hfin
      clear hfin
      go_wp2_with fail
      go_ret
      refine ⟨_, _, _, rfl, ?_⟩
      have := HQ.out
      rw [HFIN.out] at this
      exact this
end Go.Proofs.Ytbkcpgaicoagfaa
