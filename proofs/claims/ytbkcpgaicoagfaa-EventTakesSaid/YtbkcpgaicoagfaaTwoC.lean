/- EventTakes: what the two Books keep, side by side. -/
import Derived.Test.YtbkcpgaicoagfaaRt1
import Derived.Test.YtbkcpgaicoagfaaRb5
import Derived.Test.YtbkcpgaicoagfaaAwkC
import Derived.Test.YtbkcpgaicoagfaaEg35
set_option linter.unusedVariables false
set_option linter.unusedSimpArgs false
namespace Go.Proofs.Ytbkcpgaicoagfaa
open Go.RowKit

/-- Twelve cells in a row: an event. -/
def EvAt (w : World) (b o : Nat) (r : Evr) : Prop := ∀ j v, (ecl r)[j]? = some v → w.cell? ⟨b, o + j, none⟩ = some v
theorem RdV.atE {w : World} {a : Option Addr} {len : Nat} {l : List Evr} (h : RdE w a len l) {j : Nat} (hj : j < len) : ∃ b o r, a = some ⟨b, o, none⟩ ∧ l[j]? = some r ∧ EvAt w b (o + j * 12) r := by
  obtain ⟨b, o, hA, hcl⟩ := h.cells (by omega)
  have hjl : j < l.length := by rw [h.lenE]; exact hj
  refine ⟨b, o, l[j], hA, List.getElem?_eq_getElem hjl, fun i v hi => ?_⟩
  have hi12 : i < 12 := (List.getElem?_eq_some_iff.1 hi).1
  rw [Nat.add_assoc]
  refine hcl (j * 12 + i) v ?_
  have e : ∀ (l : List Evr) (j : Nat) (hj : j < l.length), (ecs l)[j * 12 + i]? = (ecl l[j])[i]? := by
    intro l
    induction l with
    | nil => intro j hj; simp at hj
    | cons y l ih =>
      intro j hj
      have h12 : (ecl y).length = 12 := rfl
      have e2 : ecs (y :: l) = ecl y ++ ecs l := List.flatMap_cons
      cases j with
      | zero => rw [e2, Nat.zero_mul, Nat.zero_add, List.getElem?_append_left (by rw [h12]; exact hi12)]; rfl
      | succ j =>
        rw [e2, List.getElem?_append_right (by rw [h12]; omega), h12, show (j + 1) * 12 + i - 12 = j * 12 + i by omega]
        have := ih j (by simpa using hj)
        simpa using this
  rw [e l j hjl]
  exact hi
theorem EvAt.keep {w w' : World} {b o : Nat} {r : Evr} (h : EvAt w b o r) (hg : Grew w w') : EvAt w' b o r := fun j v hj => hg.ce (h j v hj)
theorem BookI.mono {w : World} {p tp : Nat} {lv : Value} {mb lb k k' : Nat} {s : PB} (h : BookI w p tp lv mb lb k s) (hk : k ≤ k') (hk2 : k' ≤ 1000) : BookI w p tp lv mb lb k' s :=
  ⟨h.cells, h.tab, h.map.mono hk, h.ne, h.t0, h.t1, Nat.le_trans h.few (by omega), hk2⟩
theorem BookI.other {w : World} {p tp : Nat} {lv : Value} {mb lb k : Nat} {s : PB} (h : BookI w p tp lv mb lb k s) {b : Nat} {cs : Array Value} {T : TypeId} {fr : Nat × Nat} (hb : w.heap[b]? = some (.cells cs T fr)) (h1 : T ≠ 117) (h2 : T ≠ 9) (h3 : T ≠ 84) : ¬ ftb p tp lv mb lb b := by
  rintro (e | e | e)
  · rw [e, h.cells] at hb
    simp only [Option.some.injEq, Obj.cells.injEq] at hb
    exact h3 hb.2.1.symm
  · obtain ⟨es, c, hm⟩ := h.map.isMap
    rw [e, hm] at hb; simp at hb
  · exact ftp_nobook h.tab hb h1 h2 e
theorem U8.book {w : World} {A : Option Addr} (hu : U8 w A) {p tp : Nat} {lv : Value} {mb lb k : Nat} {s : PB} (h : BookI w p tp lv mb lb k s) : ∀ ad, A = some ad → ¬ ftb p tp lv mb lb ad.block := fun ad e => by
  obtain ⟨cs, fr, hc⟩ := hu ad e
  exact h.other hc (by decide) (by decide) (by decide)
theorem U8.rbook {w : World} {A : Option Addr} (hu : U8 w A) {p tp : Nat} {lv LV : Value} {rows : List Lnr} {k : Nat} {s : PB} (h : RBI w p tp lv LV rows k s) : ∀ ad, A = some ad → ¬ ftR p tp lv LV ad.block := fun ad e => by
  obtain ⟨cs, fr, hc⟩ := hu ad e
  exact h.other hc (by decide) (by decide) (by decide) (by decide)
/-- Two rows of bytes, equal, neither of them a Book's. -/
structure TwoR (out : List Int) (m : Nat) (B1 B2 : Option Addr) (wr : World) : Prop where
  r1 : Rd wr B1 m out
  r2 : Rd wr B2 m out
  u1 : U8 wr B1
  u2 : U8 wr B2
theorem TwoR.keep {wr u : World} {out : List Int} {m : Nat} {B1 B2 : Option Addr} (h : TwoR out m B1 B2 wr) (hg : Grew wr u) : TwoR out m B1 B2 u := ⟨h.r1.keep hg, h.r2.keep hg, h.u1.keep hg, h.u2.keep hg⟩
theorem noB (u : World) : RdK .u8 u none 0 [] := ⟨rfl, fun h => by omega⟩
theorem hdr_low {w : World} {A : Option Addr} {n : Nat} {l : List Hdr} (h : RdH w A n l) : 0 < n → ∀ ad, A = some ad → ad.block < w.heap.size := fun h0 ad e => by
  obtain ⟨b, o, hA, hcl⟩ := h.cells (by omega)
  rw [hA] at e; cases e
  have hle : 0 < (hcs l).length := by rw [hcs_len, h.lenH]; omega
  exact lt_of_cell (p := ⟨b, o + 0, none⟩) (hcl 0 _ (List.getElem?_eq_getElem hle))
theorem evW_cut {x : Ev} (h : EvW x) : EvW (cutE x) := ⟨h.ki, h.se, h.ti, h.st, h.co, h.nn⟩

/-- Two Books of one state, side by side. -/
structure TwoC (w : World) (p tp : Nat) (lv : Value) (mb lb rp rtp : Nat) (rlv LV : Value) (rows : List Lnr) (k : Nat) (s : PB) (wr : World) : Prop where
  bk : BookI wr p tp lv mb lb k s
  rb : RBI wr rp rtp rlv LV rows k s
  f1 : ∀ x, ftb p tp lv mb lb x → w.heap.size ≤ x
  f2 : ∀ x, ftR rp rtp rlv LV x → w.heap.size ≤ x ∧ ¬ ftb p tp lv mb lb x
  ll : LB (fun x => ¬ ftb p tp lv mb lb x) rows
  ok : LOk s
  grew : Grew w wr
section
variable {w wr u1 u2 u3 u4 : World} {p tp : Nat} {lv lv' : Value} {mb lb rp rtp : Nat} {rlv LV rlv' LV' : Value} {rows rows' : List Lnr} {k k' : Nat} {s s' : PB}
theorem TwoC.keep (h : TwoC w p tp lv mb lb rp rtp rlv LV rows k s wr) (hg : Grew wr u1) : TwoC w p tp lv mb lb rp rtp rlv LV rows k s u1 :=
  ⟨h.bk.keep hg, h.rb.keep hg, h.f1, h.f2, h.ll, h.ok, h.grew.tr hg⟩
theorem TwoC.mono (h : TwoC w p tp lv mb lb rp rtp rlv LV rows k s wr) (hk : k ≤ k') (hk2 : k' ≤ 1000) : TwoC w p tp lv mb lb rp rtp rlv LV rows k' s wr :=
  ⟨h.bk.mono hk hk2, h.rb.mono hk hk2, h.f1, h.f2, h.ll, h.ok, h.grew⟩
/-- The answer's Book while the other Book's call ran. -/
theorem TwoC.rb1 (h : TwoC w p tp lv mb lb rp rtp rlv LV rows k s wr) (hg : Grew wr u1) (hc : Chg (ftb p tp lv mb lb) u1 u2) : RBI u2 rp rtp rlv LV rows k s ∧ Grew w u2 :=
  ⟨(h.rb.keep hg).chg hc (fun b hb hF => (h.f2 b hb).2 hF) (fun r hr h0 ad e hF => h.ll r hr h0 ad e hF), grew_chg (h.grew.tr hg) hc h.f1⟩
theorem TwoC.ll2 (h : TwoC w p tp lv mb lb rp rtp rlv LV rows k s wr) (hg : Grew wr u1) (hf : ∀ b, ftb p tp lv' mb lb b → ftb p tp lv mb lb b ∨ u1.heap.size ≤ b) : LB (fun x => ¬ ftb p tp lv' mb lb x) rows := fun r hr h0 ad e hk => by
  rcases hf _ hk with h1 | h1
  · exact h.ll r hr h0 ad e h1
  · have h2 := ((h.rb.lines.ap r hr).2 h0 ad e).2
    have := hg.size
    omega
/-- Behind both. -/
theorem TwoC.step (h : TwoC w p tp lv mb lb rp rtp rlv LV rows k s wr) (hg : Grew wr u1) (hc : Chg (ftb p tp lv mb lb) u1 u2) (hb : BookI u2 p tp lv' mb lb (k + 2) s') (hf : ∀ b, ftb p tp lv' mb lb b → ftb p tp lv mb lb b ∨ u1.heap.size ≤ b)
    (hg2 : Grew u2 u3) (hrc : Chg (ftR rp rtp rlv LV) u3 u4) (hrb : RBI u4 rp rtp rlv' LV' rows' (k + 2) s') (hrf : ∀ b, ftR rp rtp rlv' LV' b → ftR rp rtp rlv LV b ∨ u3.heap.size ≤ b) (hl : LB (fun x => ¬ ftb p tp lv' mb lb x) rows') (hok : LOk s') : TwoC w p tp lv' mb lb rp rtp rlv' LV' rows' (k + 2) s' u4 := by
  obtain ⟨hr2, hgw2⟩ := h.rb1 hg hc
  have hgw1 := h.grew.tr hg
  have h3 := hb.keep hg2
  have hwr : ∀ b, ftR rp rtp rlv LV b → b < u1.heap.size := fun b hb => by have := h.rb.lt hb; have := hg.size; omega
  refine ⟨h3.chg hrc (fun b hb2 hR => ?_) (fun b cs fr hc2 => (hr2.keep hg2).other hc2 (by decide) (by decide) (by decide) (by decide)), hrb, fun x hx => ?_, fun x hx => ?_, hl, hok, grew_chg (hgw2.tr hg2) hrc (fun b hb => (h.f2 b hb).1)⟩
  · rcases hf b hb2 with h1 | h1
    · exact (h.f2 b hR).2 h1
    · have := hwr b hR; omega
  · rcases hf x hx with h1 | h1
    · exact h.f1 x h1
    · have := hgw1.size; omega
  · rcases hrf x hx with h1 | h1
    · refine ⟨(h.f2 x h1).1, fun h2 => ?_⟩
      rcases hf x h2 with h4 | h4
      · exact (h.f2 x h1).2 h4
      · have := hwr x h1; omega
    · refine ⟨by have := (hgw2.tr hg2).size; omega, fun h2 => ?_⟩
      have := hb.lt h2
      have := hg2.size
      omega
end
/-! ### What the Books' states keep -/
theorem LOk.nil : LOk ⟨[], 0, fun _ _ => []⟩ := fun _ _ _ => rfl
theorem LOk.told {s : PB} (h : LOk s) {ts : List ByteArray} {x : Ev} (hs : 0 ≤ x.se ∧ x.se ≤ 1048576) : LOk (toldB s ts x) := fun se an hb => by
  unfold toldB
  dsimp only
  split
  · unfold setL
    rw [if_neg (fun e => by have := e.1; omega)]
    exact h se an hb
  · exact h se an hb
def putS (s : PB) (x : Ev) : PB := if goodE x = false ∨ x.ti < s.ti then s else (putB s x).2
theorem LOk.put {s : PB} (h : LOk s) (x : Ev) : LOk (putS s x) := by
  unfold putS
  split
  · exact h
  · rename_i hn
    have hg : goodE x = true := by cases hg : goodE x with | true => rfl | false => exact absurd (.inl hg) hn
    exact h.told (goodP_of hg).se
theorem LOk.takeH {s : PB} (h : LOk s) (bs : List Int) (more : Int) (x : Ev) (a e : Int) (ts : List ByteArray) : LOk (takeH s bs more x a e ts).2.2.2 := by
  unfold Go.Proofs.Ytbkcpgaicoagfaa.takeH
  dsimp only
  obtain ⟨q, hq⟩ : ∃ q, (if isL x.ki = true then headR ts bs a e (s.L x.se (decide (x.ki = 3))) else ([], a, e, ts)) = q := ⟨_, rfl⟩
  rw [hq]
  obtain ⟨y, hy⟩ : ∃ y : Ev, (if isL x.ki = true then { x with hs := if q.2.2.1 = 0 then q.1 else [] } else x) = y := ⟨_, rfl⟩
  rw [hy]
  by_cases h0 : q.2.2.1 ≠ 0
  · rw [if_pos h0]
    exact fun se an hb => h se an hb
  · rw [if_neg h0]
    by_cases h1 : more < 0 ∨ goodE y = false
    · rw [if_pos h1]
      exact fun se an hb => h se an hb
    · rw [if_neg h1]
      refine LOk.told h ?_
      have hg : goodE y = true := by cases hg : goodE y with | true => rfl | false => exact absurd (.inr hg) h1
      exact (goodP_of hg).se
theorem LOk.takeM {s : PB} (h : LOk s) (bs : List Int) (more : Int) (x : Ev) (a e : Int) : LOk (takeM s bs more x a e).2.2.2 := by
  unfold Go.Proofs.Ytbkcpgaicoagfaa.takeM
  dsimp only
  by_cases h2 : x.ki = 2
  · rw [if_pos h2]
    by_cases h3 : (numR bs a e).2.2 = 0 ∧ 1 < (numR bs a e).1
    · rw [if_pos h3]; exact h
    · rw [if_neg h3]; exact LOk.takeH h bs more _ _ _ _
  · rw [if_neg h2]
    by_cases h5 : x.ki = 5 ∨ x.ki = 6
    · rw [if_pos h5]; exact LOk.takeH h bs more _ _ _ _
    · rw [if_neg h5]; exact LOk.takeH h bs more _ _ _ _
theorem LOk.take {s : PB} (h : LOk s) (bs : List Int) (a : Int) : LOk (takeB s bs a).2.2.2 := by
  unfold takeB
  dsimp only
  by_cases h1 : (numR bs a 0).2.2 = 0 ∧ ¬ (1 ≤ smallV (numR bs a 0).1 ∧ smallV (numR bs a 0).1 ≤ 7)
  · rw [if_pos h1]; exact h
  · rw [if_neg h1]; exact LOk.takeM h bs _ _ _ _
/-! ### What Take hands back is bounded -/
structure ResB (z : Ev × Int × Int × PB) : Prop where
  few : z.1.hs.length ≤ 25
  a0 : -9223372036854775808 ≤ z.2.1
  a1 : z.2.1 ≤ 9223372036854775807
theorem ResB.zero (e : Int) (s : PB) : ResB (zeroE, 0, e, s) := ⟨by simp, by simp, by simp⟩
theorem takeH_res {bs : List Int} (hb : Byt bs) (hl : bs.length ≤ 1000000) (s : PB) (more : Int) (x : Ev) (a e : Int) (ts : List ByteArray) (h0 : -9223372036854775808 ≤ a) (h1 : a ≤ 9223372036854775807) : ResB (takeH s bs more x a e ts) := by
  unfold takeH
  dsimp only
  have hbd := headR_bd hb hl ts e (s.L x.se (decide (x.ki = 3))) h0 h1
  obtain ⟨q, hq⟩ : ∃ q, (if isL x.ki = true then headR ts bs a e (s.L x.se (decide (x.ki = 3))) else ([], a, e, ts)) = q := ⟨_, rfl⟩
  have hqb : -9223372036854775808 ≤ q.2.1 ∧ q.2.1 ≤ 9223372036854775807 := by
    rw [← hq]
    by_cases hi : isL x.ki = true
    · rw [if_pos hi]; exact ⟨hbd.1, hbd.2.1⟩
    · rw [if_neg hi]; exact ⟨h0, h1⟩
  rw [hq]
  obtain ⟨y, hy⟩ : ∃ y : Ev, (if isL x.ki = true then { x with hs := if q.2.2.1 = 0 then q.1 else [] } else x) = y := ⟨_, rfl⟩
  rw [hy]
  by_cases h0 : q.2.2.1 ≠ 0
  · rw [if_pos h0]; exact ResB.zero _ _
  · rw [if_neg h0]
    by_cases h1 : more < 0 ∨ goodE y = false
    · rw [if_pos h1]; exact ResB.zero _ _
    · rw [if_neg h1]
      have hg : goodE y = true := by cases hg : goodE y with | true => rfl | false => exact absurd (.inr hg) h1
      exact ⟨(goodP_of hg).hs, hqb.1, hqb.2⟩
theorem wordsR_bd3 {bs : List Int} (hb : Byt bs) (hl : bs.length ≤ 1000000) : ∀ (l : List Nat) (x : Ev) (a e : Int) (ts : List ByteArray), -9223372036854775808 ≤ a → a ≤ 9223372036854775807 → -9223372036854775808 ≤ (wordsR bs l x a e ts).2.1 ∧ (wordsR bs l x a e ts).2.1 ≤ 9223372036854775807
  | [], _, _, _, ts, h0, h1 => ⟨h0, h1⟩
  | f :: l, x, a, e, ts, h0, h1 => by
    have hbd := textR_bd hb hl ts e h0 h1
    exact wordsR_bd3 hb hl l (setT x f (textR ts bs a e).1) (textR ts bs a e).2.1 (textR ts bs a e).2.2.1 (textR ts bs a e).2.2.2 hbd.1 hbd.2.1
theorem numsR_bd3 {bs : List Int} (hb : Byt bs) (hl : bs.length ≤ 1000000) : ∀ (l : List Nat) (x : Ev) (a e : Int), -9223372036854775808 ≤ a → a ≤ 9223372036854775807 → -9223372036854775808 ≤ (numsR bs l x a e).2.1 ∧ (numsR bs l x a e).2.1 ≤ 9223372036854775807
  | [], _, _, _, h0, h1 => ⟨h0, h1⟩
  | f :: l, x, a, e, h0, h1 => by
    have hbd := numR_bd hb hl e h0 h1
    exact numsR_bd3 hb hl l (setI x f (smallV (numR bs a e).1)) (numR bs a e).2.1 (numR bs a e).2.2 hbd.2.2.1 hbd.2.2.2
theorem takeM_res {bs : List Int} (hb : Byt bs) (hl : bs.length ≤ 1000000) (s : PB) (more : Int) (x : Ev) (a e : Int) (h0 : -9223372036854775808 ≤ a) (h1 : a ≤ 9223372036854775807) : ResB (takeM s bs more x a e) := by
  have go : ∀ (l : List Nat) (x : Ev) (a e : Int), -9223372036854775808 ≤ a → a ≤ 9223372036854775807 → ResB (takeH s bs more (wordsR bs l x a e s.ts).1 (wordsR bs l x a e s.ts).2.1 (wordsR bs l x a e s.ts).2.2.1 (wordsR bs l x a e s.ts).2.2.2) := fun l x a e h0 h1 => by
    have := wordsR_bd3 hb hl l x a e s.ts h0 h1
    exact takeH_res hb hl s more _ _ _ _ this.1 this.2
  unfold takeM
  dsimp only
  have hr := numR_bd hb hl e h0 h1
  by_cases h2 : x.ki = 2
  · rw [if_pos h2]
    by_cases h3 : (numR bs a e).2.2 = 0 ∧ 1 < (numR bs a e).1
    · rw [if_pos h3]; exact ResB.zero _ _
    · rw [if_neg h3]
      have hr2 := numR_bd hb hl (numR bs a e).2.2 hr.2.2.1 hr.2.2.2
      exact go _ _ _ _ hr2.2.2.1 hr2.2.2.2
  · rw [if_neg h2]
    by_cases h5 : x.ki = 5 ∨ x.ki = 6
    · rw [if_pos h5]; exact go _ _ _ _ hr.2.2.1 hr.2.2.2
    · rw [if_neg h5]; exact go _ _ _ _ h0 h1
theorem takeB_res {bs : List Int} (hb : Byt bs) (hl : bs.length ≤ 1000000) (s : PB) {a : Int} (h0 : -9223372036854775808 ≤ a) (h1 : a ≤ 9223372036854775807) : ResB (takeB s bs a) := by
  unfold takeB
  dsimp only
  have r1 := numR_bd hb hl 0 h0 h1
  have r2 := numR_bd hb hl (numR bs a 0).2.2 r1.2.2.1 r1.2.2.2
  have r3 := numR_bd hb hl (numR bs (numR bs a 0).2.1 (numR bs a 0).2.2).2.2 r2.2.2.1 r2.2.2.2
  by_cases h1 : (numR bs a 0).2.2 = 0 ∧ ¬ (1 ≤ smallV (numR bs a 0).1 ∧ smallV (numR bs a 0).1 ≤ 7)
  · rw [if_pos h1]; exact ResB.zero _ _
  · rw [if_neg h1]
    have hn := numsR_bd3 hb hl (numF (smallV (numR bs a 0).1)) { zeroE with ki := smallV (numR bs a 0).1, se := smallV (numR bs (numR bs a 0).2.1 (numR bs a 0).2.2).1, ti := s.ti + max (smallV (numR bs (numR bs (numR bs a 0).2.1 (numR bs a 0).2.2).2.1 (numR bs (numR bs a 0).2.1 (numR bs a 0).2.2).2.2).1) 0 } _ (numR bs (numR bs (numR bs a 0).2.1 (numR bs a 0).2.2).2.1 (numR bs (numR bs a 0).2.1 (numR bs a 0).2.2).2.2).2.2 r3.2.2.1 r3.2.2.2
    exact takeM_res hb hl s _ _ _ _ hn.1 hn.2
theorem bput_nil (p tp : Nat) (lv : Value) (mb lb k : Nat) (s : PB) (x : Ev) (A : Option Addr) (n c : Nat) (w : World) (hB : BookI w p tp lv mb lb k s) (hr : RdH w A n x.hs) (hA : A = none → n = 0 ∧ c = 0) (hn : n ≤ 1000) (hnc : n ≤ c) (hc : c ≤ 9223372036854775807) (hAf : 0 < n → ∀ ad, A = some ad → ¬ ftb p tp lv mb lb ad.block) (hk : k < 990) (hW : EvW x) :
    Calls Try.prog 14 #[.pointer (some ⟨p, 0, none⟩), .slice none 0 0, evV x A n c] w fun e w' => ∃ v er, e = .returned (.tuple #[v, .int .i64 er]) ∧ (∃ lv', BookI w' p tp lv' mb lb (k + 2) (putS s x) ∧ ∀ b, ftb p tp lv' mb lb b → ftb p tp lv mb lb b ∨ w.heap.size ≤ b) ∧ Chg (ftb p tp lv mb lb) w w' := by
  by_cases hg : goodE x = true
  · by_cases hl : x.ti < s.ti
    · refine Calls.mono (bput_late p tp lv mb lb k s x A n c none 0 0 w hB hr hA hn hg hl) ?_
      rintro e w' ⟨rfl, hg2⟩
      refine ⟨_, _, rfl, ⟨lv, ?_, fun b hb => .inl hb⟩, Chg.of hg2⟩
      unfold putS
      rw [if_pos (.inr hl)]
      exact (hB.keep hg2).mono (by omega) (by omega)
    · refine Calls.mono (bput_any p tp lv mb lb k s x A n c none 0 0 [] w hB hr hA hnc hc (noB w) (by omega) hAf hk hW hg (by omega)) ?_
      rintro e w' ⟨v, rfl, hQ⟩
      obtain ⟨lv', hb, hf, -⟩ := hQ.book
      refine ⟨_, _, rfl, ⟨lv', ?_, hf⟩, hQ.chg⟩
      unfold putS
      rw [if_neg (fun h => h.elim (fun h => by rw [hg] at h; cases h) hl)]
      exact hb
  · have hg : goodE x = false := by simpa using hg
    refine Calls.mono (bput_bad p tp lv mb lb k s x A n c none 0 0 w hB hr hA hn hg) ?_
    rintro e w' ⟨rfl, hg2⟩
    refine ⟨_, _, rfl, ⟨lv, ?_, fun b hb => .inl hb⟩, Chg.of hg2⟩
    unfold putS
    rw [if_pos (.inl hg)]
    exact (hB.keep hg2).mono (by omega) (by omega)
theorem rbput_nil (p tp : Nat) (lv LV : Value) (rows : List Lnr) (k : Nat) (s : PB) (x : Ev) (A : Option Addr) (n c : Nat) (w : World) (hB : RBI w p tp lv LV rows k s) (hr : RdH w A n x.hs) (hn : n ≤ 1000) (hnc : n ≤ c) (hc : c ≤ 9223372036854775807) (hAf : 0 < n → ∀ ad, A = some ad → ¬ ftR p tp lv LV ad.block) (hk : k < 990) (hW : EvW x) :
    Calls Try.prog 16 #[.pointer (some ⟨p, 0, none⟩), .slice none 0 0, evV x A n c] w fun e w' => ∃ v er, e = .returned (.tuple #[v, .int .i64 er]) ∧ (∃ lv' LV' rows', RBI w' p tp lv' LV' rows' (k + 2) (putS s x) ∧ (∀ b, ftR p tp lv' LV' b → ftR p tp lv LV b ∨ w.heap.size ≤ b) ∧ ∀ M : Nat → Prop, (0 < n → ∀ ad, A = some ad → M ad.block) → LB M rows → LB M rows') ∧ Chg (ftR p tp lv LV) w w' := by
  by_cases hg : goodE x = true
  · by_cases hl : x.ti < s.ti
    · refine Calls.mono (rbput_late p tp lv LV rows k s x A n c none 0 0 w hB hr hn hW.co hg hl) ?_
      rintro e w' ⟨rfl, hg2⟩
      refine ⟨_, _, rfl, ⟨lv, LV, rows, ?_, fun b hb => .inl hb, fun _ _ h => h⟩, Chg.of hg2⟩
      unfold putS
      rw [if_pos (.inr hl)]
      exact (hB.keep hg2).mono (by omega) (by omega)
    · refine Calls.mono (rbput_any p tp lv LV rows k s x A n c none 0 0 [] w hB hr hnc hc (noB w) (by omega) hAf hk hW hg (by omega)) ?_
      rintro e w' ⟨v, rfl, hQ⟩
      obtain ⟨lv', LV', rows', hb, hf, hM⟩ := hQ.book
      refine ⟨_, _, rfl, ⟨lv', LV', rows', ?_, hf, hM⟩, hQ.chg⟩
      unfold putS
      rw [if_neg (fun h => h.elim (fun h => by rw [hg] at h; cases h) hl)]
      exact hb
  · have hg : goodE x = false := by simpa using hg
    refine Calls.mono (rbput_bad p tp lv LV rows k s x A n c none 0 0 w hB hr hn hW.co hg) ?_
    rintro e w' ⟨rfl, hg2⟩
    refine ⟨_, _, rfl, ⟨lv, LV, rows, ?_, fun b hb => .inl hb, fun _ _ h => h⟩, Chg.of hg2⟩
    unfold putS
    rw [if_pos (.inl hg)]
    exact (hB.keep hg2).mono (by omega) (by omega)
end Go.Proofs.Ytbkcpgaicoagfaa
