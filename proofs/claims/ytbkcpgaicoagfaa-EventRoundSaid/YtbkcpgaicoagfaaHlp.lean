/- What both walks over the program's Books need. -/
import Derived.Test.YtbkcpgaicoagfaaAwkC
import Derived.Test.YtbkcpgaicoagfaaEg29
import Derived.Test.YtbkcpgaicoagfaaEg28
import Derived.Test.YtbkcpgaicoagfaaEg35
set_option linter.unusedVariables false
set_option linter.unusedSimpArgs false
namespace Go.Proofs.Ytbkcpgaicoagfaa
open Go.RowKit

/-- Twelve cells in a row: an event. -/
def EvAt (w : World) (b o : Nat) (r : Evr) : Prop := ∀ j v, (ecl r)[j]? = some v → w.cell? ⟨b, o + j, none⟩ = some v
theorem RdV.atE {w : World} {a : Option Addr} {len : Nat} {l : List Evr} (h : RdE w a len l) {j : Nat} (hj : j < len) : ∃ b o r, a = some ⟨b, o, none⟩ ∧ l[j]? = some r ∧ EvAt w b (o + j * 12) r := by
  obtain ⟨b, o, hA, hcl⟩ := h.cells (by omega)
  have hjl : j < l.length := by rw [h.lenE]; exact hj
  refine ⟨b, o, l[j], hA, List.getElem?_eq_getElem hjl, fun i v hi => ?_⟩
  have hi12 : i < 12 := (List.getElem?_eq_some_iff.1 hi).1
  rw [Nat.add_assoc]
  refine hcl (j * 12 + i) v ?_
  have e : ∀ (l : List Evr) (j : Nat) (hj : j < l.length), (ecs l)[j * 12 + i]? = (ecl l[j])[i]? := by
    intro l
    induction l with
    | nil => intro j hj; simp at hj
    | cons y l ih =>
      intro j hj
      have h12 : (ecl y).length = 12 := rfl
      have e2 : ecs (y :: l) = ecl y ++ ecs l := List.flatMap_cons
      cases j with
      | zero => rw [e2, Nat.zero_mul, Nat.zero_add, List.getElem?_append_left (by rw [h12]; exact hi12)]; rfl
      | succ j =>
        rw [e2, List.getElem?_append_right (by rw [h12]; omega), h12, show (j + 1) * 12 + i - 12 = j * 12 + i by omega]
        have := ih j (by simpa using hj)
        simpa using this
  rw [e l j hjl]
  exact hi
theorem EvAt.keep {w w' : World} {b o : Nat} {r : Evr} (h : EvAt w b o r) (hg : Grew w w') : EvAt w' b o r := fun j v hj => hg.ce (h j v hj)
theorem BookI.mono {w : World} {p tp : Nat} {lv : Value} {mb lb k k' : Nat} {s : PB} (h : BookI w p tp lv mb lb k s) (hk : k ≤ k') (hk2 : k' ≤ 1000) : BookI w p tp lv mb lb k' s :=
  ⟨h.cells, h.tab, h.map.mono hk, h.ne, h.t0, h.t1, Nat.le_trans h.few (by omega), hk2⟩
theorem BookI.other {w : World} {p tp : Nat} {lv : Value} {mb lb k : Nat} {s : PB} (h : BookI w p tp lv mb lb k s) {b : Nat} {cs : Array Value} {T : TypeId} {fr : Nat × Nat} (hb : w.heap[b]? = some (.cells cs T fr)) (h1 : T ≠ 117) (h2 : T ≠ 9) (h3 : T ≠ 84) : ¬ ftb p tp lv mb lb b := by
  rintro (e | e | e)
  · rw [e, h.cells] at hb
    simp only [Option.some.injEq, Obj.cells.injEq] at hb
    exact h3 hb.2.1.symm
  · obtain ⟨es, c, hm⟩ := h.map.isMap
    rw [e, hm] at hb; simp at hb
  · exact ftp_nobook h.tab hb h1 h2 e
theorem U8.book {w : World} {A : Option Addr} (hu : U8 w A) {p tp : Nat} {lv : Value} {mb lb k : Nat} {s : PB} (h : BookI w p tp lv mb lb k s) : ∀ ad, A = some ad → ¬ ftb p tp lv mb lb ad.block := fun ad e => by
  obtain ⟨cs, fr, hc⟩ := hu ad e
  exact h.other hc (by decide) (by decide) (by decide)
theorem noB (u : World) : RdK .u8 u none 0 [] := ⟨rfl, fun h => by omega⟩
theorem hdr_low {w : World} {A : Option Addr} {n : Nat} {l : List Hdr} (h : RdH w A n l) : 0 < n → ∀ ad, A = some ad → ad.block < w.heap.size := fun h0 ad e => by
  obtain ⟨b, o, hA, hcl⟩ := h.cells (by omega)
  rw [hA] at e; cases e
  have hle : 0 < (hcs l).length := by rw [hcs_len, h.lenH]; omega
  exact lt_of_cell (p := ⟨b, o + 0, none⟩) (hcl 0 _ (List.getElem?_eq_getElem hle))
theorem evW_cut {x : Ev} (h : EvW x) : EvW (cutE x) := ⟨h.ki, h.se, h.ti, h.st, h.co, h.nn⟩

/-! ### What Take hands back is bounded -/
structure ResB (z : Ev × Int × Int × PB) : Prop where
  few : z.1.hs.length ≤ 25
  a0 : -9223372036854775808 ≤ z.2.1
  a1 : z.2.1 ≤ 9223372036854775807
theorem ResB.zero (e : Int) (s : PB) : ResB (zeroE, 0, e, s) := ⟨by simp, by simp, by simp⟩
theorem takeH_res {bs : List Int} (hb : Byt bs) (hl : bs.length ≤ 5000000) (s : PB) (more : Int) (x : Ev) (a e : Int) (ts : List ByteArray) (h0 : -9223372036854775808 ≤ a) (h1 : a ≤ 9223372036854775807) : ResB (takeH s bs more x a e ts) := by
  unfold takeH
  dsimp only
  have hbd := headR_bd hb hl ts e (s.L x.se (decide (x.ki = 3))) h0 h1
  obtain ⟨q, hq⟩ : ∃ q, (if isL x.ki = true then headR ts bs a e (s.L x.se (decide (x.ki = 3))) else ([], a, e, ts)) = q := ⟨_, rfl⟩
  have hqb : -9223372036854775808 ≤ q.2.1 ∧ q.2.1 ≤ 9223372036854775807 := by
    rw [← hq]
    by_cases hi : isL x.ki = true
    · rw [if_pos hi]; exact ⟨hbd.1, hbd.2.1⟩
    · rw [if_neg hi]; exact ⟨h0, h1⟩
  rw [hq]
  obtain ⟨y, hy⟩ : ∃ y : Ev, (if isL x.ki = true then { x with hs := if q.2.2.1 = 0 then q.1 else [] } else x) = y := ⟨_, rfl⟩
  rw [hy]
  by_cases h0 : q.2.2.1 ≠ 0
  · rw [if_pos h0]; exact ResB.zero _ _
  · rw [if_neg h0]
    by_cases h1 : more < 0 ∨ goodE y = false
    · rw [if_pos h1]; exact ResB.zero _ _
    · rw [if_neg h1]
      have hg : goodE y = true := by cases hg : goodE y with | true => rfl | false => exact absurd (.inr hg) h1
      exact ⟨(goodP_of hg).hs, hqb.1, hqb.2⟩
theorem wordsR_bd3 {bs : List Int} (hb : Byt bs) (hl : bs.length ≤ 5000000) : ∀ (l : List Nat) (x : Ev) (a e : Int) (ts : List ByteArray), -9223372036854775808 ≤ a → a ≤ 9223372036854775807 → -9223372036854775808 ≤ (wordsR bs l x a e ts).2.1 ∧ (wordsR bs l x a e ts).2.1 ≤ 9223372036854775807
  | [], _, _, _, ts, h0, h1 => ⟨h0, h1⟩
  | f :: l, x, a, e, ts, h0, h1 => by
    have hbd := textR_bd hb hl ts e h0 h1
    exact wordsR_bd3 hb hl l (setT x f (textR ts bs a e).1) (textR ts bs a e).2.1 (textR ts bs a e).2.2.1 (textR ts bs a e).2.2.2 hbd.1 hbd.2.1
theorem numsR_bd3 {bs : List Int} (hb : Byt bs) (hl : bs.length ≤ 5000000) : ∀ (l : List Nat) (x : Ev) (a e : Int), -9223372036854775808 ≤ a → a ≤ 9223372036854775807 → -9223372036854775808 ≤ (numsR bs l x a e).2.1 ∧ (numsR bs l x a e).2.1 ≤ 9223372036854775807
  | [], _, _, _, h0, h1 => ⟨h0, h1⟩
  | f :: l, x, a, e, h0, h1 => by
    have hbd := numR_bd hb hl e h0 h1
    exact numsR_bd3 hb hl l (setI x f (smallV (numR bs a e).1)) (numR bs a e).2.1 (numR bs a e).2.2 hbd.2.2.1 hbd.2.2.2
theorem takeM_res {bs : List Int} (hb : Byt bs) (hl : bs.length ≤ 5000000) (s : PB) (more : Int) (x : Ev) (a e : Int) (h0 : -9223372036854775808 ≤ a) (h1 : a ≤ 9223372036854775807) : ResB (takeM s bs more x a e) := by
  have go : ∀ (l : List Nat) (x : Ev) (a e : Int), -9223372036854775808 ≤ a → a ≤ 9223372036854775807 → ResB (takeH s bs more (wordsR bs l x a e s.ts).1 (wordsR bs l x a e s.ts).2.1 (wordsR bs l x a e s.ts).2.2.1 (wordsR bs l x a e s.ts).2.2.2) := fun l x a e h0 h1 => by
    have := wordsR_bd3 hb hl l x a e s.ts h0 h1
    exact takeH_res hb hl s more _ _ _ _ this.1 this.2
  unfold takeM
  dsimp only
  have hr := numR_bd hb hl e h0 h1
  by_cases h2 : x.ki = 2
  · rw [if_pos h2]
    by_cases h3 : (numR bs a e).2.2 = 0 ∧ 1 < (numR bs a e).1
    · rw [if_pos h3]; exact ResB.zero _ _
    · rw [if_neg h3]
      have hr2 := numR_bd hb hl (numR bs a e).2.2 hr.2.2.1 hr.2.2.2
      exact go _ _ _ _ hr2.2.2.1 hr2.2.2.2
  · rw [if_neg h2]
    by_cases h5 : x.ki = 5 ∨ x.ki = 6
    · rw [if_pos h5]; exact go _ _ _ _ hr.2.2.1 hr.2.2.2
    · rw [if_neg h5]; exact go _ _ _ _ h0 h1
theorem takeB_res {bs : List Int} (hb : Byt bs) (hl : bs.length ≤ 5000000) (s : PB) {a : Int} (h0 : -9223372036854775808 ≤ a) (h1 : a ≤ 9223372036854775807) : ResB (takeB s bs a) := by
  unfold takeB
  dsimp only
  have r1 := numR_bd hb hl 0 h0 h1
  have r2 := numR_bd hb hl (numR bs a 0).2.2 r1.2.2.1 r1.2.2.2
  have r3 := numR_bd hb hl (numR bs (numR bs a 0).2.1 (numR bs a 0).2.2).2.2 r2.2.2.1 r2.2.2.2
  by_cases h1 : (numR bs a 0).2.2 = 0 ∧ ¬ (1 ≤ smallV (numR bs a 0).1 ∧ smallV (numR bs a 0).1 ≤ 7)
  · rw [if_pos h1]; exact ResB.zero _ _
  · rw [if_neg h1]
    have hn := numsR_bd3 hb hl (numF (smallV (numR bs a 0).1)) { zeroE with ki := smallV (numR bs a 0).1, se := smallV (numR bs (numR bs a 0).2.1 (numR bs a 0).2.2).1, ti := s.ti + max (smallV (numR bs (numR bs (numR bs a 0).2.1 (numR bs a 0).2.2).2.1 (numR bs (numR bs a 0).2.1 (numR bs a 0).2.2).2.2).1) 0 } _ (numR bs (numR bs (numR bs a 0).2.1 (numR bs a 0).2.2).2.1 (numR bs (numR bs a 0).2.1 (numR bs a 0).2.2).2.2).2.2 r3.2.2.1 r3.2.2.2
    exact takeM_res hb hl s _ _ _ _ hn.1 hn.2
theorem putFs_len5 : ∀ (l : List Hdr) (ts : List ByteArray), (∀ h ∈ l, h.1.size ≤ 512 ∧ h.2.size ≤ 2048) → ts.length + 2 * l.length ≤ 1000000 → (putFs ts l).1.length ≤ 2600 * l.length
  | [], ts, _, _ => by simp [putFs]
  | x :: l, ts, h, hl => by
    rw [List.length_cons] at hl
    have hx := h x (List.mem_cons_self ..)
    have h1 := putT_len2 ts x.1 (by omega) (by omega)
    have h2 := putT_len2 (putT ts x.1).2 x.2 (by omega) (by omega)
    have h3 := putFs_len5 l (putT (putT ts x.1).2 x.2).2 (fun y hy => h y (List.mem_cons_of_mem _ hy)) (by omega)
    rw [putFs]
    simp only [List.length_append, List.length_cons]
    omega
theorem putD_len5 (ts : List ByteArray) (was list : List Hdr) (hl : list.length ≤ 25) (hz : ∀ h ∈ list, h.1.size ≤ 512 ∧ h.2.size ≤ 2048) (ht : ts.length ≤ 900000) : (putD ts was list).1.length ≤ 65030 := by
  have hf := freshD_len was list
  have hle := endsB_le was list
  have h1 := leb_len (v := (endsA was list : Int)) (by omega)
  have h2 := leb_len (v := (endsB was list : Int)) (by omega)
  have h3 := leb_len (v := ((freshD was list).length : Int)) (by omega)
  have hm : ∀ h ∈ freshD was list, h.1.size ≤ 512 ∧ h.2.size ≤ 2048 := fun h hh => hz h (by
    unfold freshD at hh
    exact List.mem_of_mem_take (List.mem_of_mem_drop hh))
  have hp := putFs_len5 (freshD was list) ts hm (by omega)
  simp only [putD, List.length_append]
  omega
theorem leb_ki {ki : Int} (h : 1 ≤ ki ∧ ki ≤ 7) : leb ki = [ki] := by
  rcases (by omega : ki = 1 ∨ ki = 2 ∨ ki = 3 ∨ ki = 4 ∨ ki = 5 ∨ ki = 6 ∨ ki = 7) with rfl | rfl | rfl | rfl | rfl | rfl | rfl <;> decide +kernel
end Go.Proofs.Ytbkcpgaicoagfaa
