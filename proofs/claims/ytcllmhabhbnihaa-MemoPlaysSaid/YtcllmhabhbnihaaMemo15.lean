/- Memo's reference: Drop. -/
import Derived.Test.YtcllmhabhbnihaaMemo14
set_option linter.unusedVariables false
set_option linter.unusedSimpArgs false
namespace Go.Proofs.Ytcllmhabhbnihaa
open Go.RowKit

theorem rm_set {w1 : World} {q m n c base : Nat} {v : Value} {A : Option Addr} {l : List Ask} (hc : w1.heap[q]? = some (.cells #[.int .i64 (m : Int), v] 42)) (hO : OwnA w1 base (.slice A n c) l) (hn : l.length = n) (hq : q < base) (hf : n ≤ m) (h1 : 1 ≤ m) (h2 : m ≤ 64) :
    RmI (w1.setCell ⟨q, 1, none⟩ (.slice A n c)) q A n c m l ∧ ∀ ad, A = some ad → base ≤ ad.block := by
  obtain ⟨A', c', e, hnc, hcm, hr⟩ := hO.rd
  simp only [Value.slice.injEq] at e
  obtain ⟨rfl, _, rfl⟩ := e
  rw [hn] at hnc hr
  have hlow : ∀ ad, A = some ad → base ≤ ad.block ∧ ad.block < w1.heap.size := fun ad e => ⟨hO.base_le ad.block (by rw [e]; rfl), hO.lt (by rw [e]; rfl)⟩
  refine ⟨⟨by rw [setCell_heap_same hc]; rfl, hr.chg (F := fun k => k = q) (Chg.ofBy (setCell_by _ _ _) (fun b hb => by cases hb; rfl)) (fun _ ad e h => by have := (hlow ad e).1; omega), fun e => ?_, ⟨hnc, hcm⟩, hf, h1, h2, fun ad e h => by have := (hlow ad e).1; omega, fun ad e => by rw [setCell_size]; exact (hlow ad e).2⟩, fun ad e => (hlow ad e).1⟩
  rcases hO.own.2 with ⟨hv, h0⟩ | ⟨g, cp, cur, hv, _⟩
  · simp only [Value.slice.injEq] at hv; exact ⟨by rw [← hn]; exact h0, hv.2.2⟩
  · simp only [Value.slice.injEq] at hv; rw [hv.1] at e; cases e
theorem flt_snoc {p : Ask → Bool} {l : List Ask} {i : Nat} {y : Ask} (h : l[i]? = some y) : (l.take (i + 1)).filter p = (l.take i).filter p ++ (if p y then [y] else []) := by
  rw [List.take_add_one, h, List.filter_append]
  cases hp : p y <;> simp [hp]
theorem snocA {w wr w1 : World} {u v : Value} {f : List Ask} {y : Ask} {o : Obj} (HO : OwnA wr w.heap.size u f) (HG : Grew w wr) (ho : OwnV 32 6 w1 w.heap.size v (f.length + 1) (acs f ++ acs [y])) (hg : (wr.alloc o).grownBy w1 u.ownBlock) : OwnA w1 w.heap.size v (f ++ [y]) ∧ Grew w w1 :=
  ⟨by show OwnV _ _ _ _ _ _ _; rw [List.length_append, acs_append]; exact ho, (HG.al o).grown hg (by rw [World.size_alloc]; have := HG.size; omega) (fun k e => HO.base_le k e)⟩
def keepD (fr ur : ByteArray) (y : Ask) : Bool := !decide (y.1 = fr ∧ y.2.1 = ur)

set_option maxRecDepth 100000 in
set_option maxHeartbeats 3200000 in
theorem rdrop_any (q : Nat) (A : Option Addr) (n c m : Nat) (l : List Ask) (fr ur : ByteArray) (w : World) (hI : RmI w q A n c m l) :
    Calls Try.prog 10 #[.pointer (some ⟨q, 0, none⟩), .string fr, .string ur] w fun e w' => e = .returned (.tuple #[]) ∧ RmQ w w' q m (l.filter fun y => !decide (y.1 = fr ∧ y.2.1 = ur)) := by
  have hq := hI.lt
  have hl := hI.rd.lenA
  have hfew := hI.few
  have hmm := hI.most
  obtain ⟨hnc, hcc⟩ := hI.cap
  have HI := Lib.hid hI
  have HL := Lib.hid hl
  clear hI hl
  go_enter Try.func10, Try.ntmps10
  go_wp2_with fail
  have hO0 := ownV_lit0 32 6 w
  have hg0 := (Grew.rf w).al (.cells #[] 32)
  go_loopw [6, 7] (fun s6 s7 wr => ∃ (i : Nat), s7 = .int .i64 (i : Int) ∧ i ≤ n ∧ RowKit.Hid (OwnA wr w.heap.size s6 ((l.take i).filter (keepD fr ur))) ∧ RowKit.Hid (Grew w wr)) (fun _ s7 _ => n - (intOf s7).toNat)
  case atStart => exact ⟨0, rfl, by omega, Lib.hid hO0, Lib.hid hg0⟩
  case round =>
    clear hO0 hg0
    obtain ⟨i, rfl, hin, HO, HG⟩ := hrel
    have hce := cell_of_heap (i := 1) (HI.out.keep HG.out).cells rfl
    simp only [List.getElem_toArray, List.getElem_cons_zero, List.getElem_cons_succ] at hce
    by_cases hlt : i < n
    · obtain ⟨b, o, y, rfl, hy, h6⟩ := HI.out.rd.atA hlt
      obtain ⟨c0, c1, c2, c3, c4, c5⟩ := h6.keep HG.out
      have HSN := Lib.hid (flt_snoc (p := keepD fr ur) hy)
      clear hy h6
      obtain ⟨f, hf⟩ : ∃ f, (l.take i).filter (keepD fr ur) = f := ⟨_, rfl⟩
      have hfl : f.length ≤ n := by rw [← hf]; exact Nat.le_trans (List.length_filter_le _ _) (Nat.le_trans (List.length_take_le _ _) hin)
      rw [hf] at HO HSN
      clear hf
      have hws := HG.out.size
      by_cases hk : y.1 = fr ∧ y.2.1 = ur
      · have e1 : (y.1.toList == fr.toList) = true := by simp [hk.1]
        have e2 : (y.2.1.toList == ur.toList) = true := by simp [hk.2]
        have HK : RowKit.Hid (keepD fr ur y = false) := by unfold keepD; rw [decide_eq_true hk]; rfl
        clear hk
        go_wp2
        go_roundw
        case rel => exact ⟨i + 1, by go_num, by omega, Lib.hid (by rw [HSN.out, if_neg (by rw [HK.out]; decide), List.append_nil]; exact HO.out), HG⟩
        case measure => simp [intOf]; omega
      · have HK : RowKit.Hid (keepD fr ur y = true) := by unfold keepD; rw [decide_eq_false hk]; rfl
        by_cases h1 : y.1 = fr
        · have e1 : (y.1.toList == fr.toList) = true := by simp [h1]
          have e2 : (y.2.1.toList == ur.toList) = false := by simpa [toList_eq_iff] using fun h => hk ⟨h1, h⟩
          clear hk h1
          go_wp2_with ((with_reducible refine gate_b .append #[.tmp 40, .tmp 48] _ rfl ?_); refine appV Try.underlying39 infoA zero_ask (by decide) (by decide) (.inl rfl) rfl rfl rfl (HO.out.keep ((Grew.rf wr).al _)) (rdA_new wr y _) (acs_one _) (by rw [World.size_alloc]; omega) (by omega) ?_; intro v1 w1 ho1 hg1 hat1; have hsn := snocA HO.out HG.out ho1 hg1; have HSA := Lib.hid hsn; clear ho1 hg1 hat1 hsn)
          go_roundw
          case rel => exact ⟨i + 1, by go_num, by omega, Lib.hid (by rw [HSN.out, if_pos HK.out]; exact HSA.out.1), Lib.hid HSA.out.2⟩
          case measure => simp [intOf]; omega
        · have e1 : (y.1.toList == fr.toList) = false := by simpa [toList_eq_iff] using h1
          clear hk h1
          go_wp2_with ((with_reducible refine gate_b .append #[.tmp 40, .tmp 48] _ rfl ?_); refine appV Try.underlying39 infoA zero_ask (by decide) (by decide) (.inl rfl) rfl rfl rfl (HO.out.keep ((Grew.rf wr).al _)) (rdA_new wr y _) (acs_one _) (by rw [World.size_alloc]; omega) (by omega) ?_; intro v1 w1 ho1 hg1 hat1; have hsn := snocA HO.out HG.out ho1 hg1; have HSA := Lib.hid hsn; clear ho1 hg1 hat1 hsn)
          go_roundw
          case rel => exact ⟨i + 1, by go_num, by omega, Lib.hid (by rw [HSN.out, if_pos HK.out]; exact HSA.out.1), Lib.hid HSA.out.2⟩
          case measure => simp [intOf]; omega
    · have hii : i = n := by omega
      have hfin : (l.take i).filter (keepD fr ur) = l.filter fun y => !decide (y.1 = fr ∧ y.2.1 = ur) := by rw [List.take_of_length_le (by rw [HL.out]; omega)]; rfl
      have hO := HO.out
      rw [hfin] at hO
      have hfl : (l.filter fun y => !decide (y.1 = fr ∧ y.2.1 = ur)).length ≤ n := by rw [← HL.out]; exact List.length_filter_le _ _
      obtain ⟨f, hf⟩ : ∃ f, (l.filter fun y => !decide (y.1 = fr ∧ y.2.1 = ur)) = f := ⟨_, rfl⟩
      rw [hf] at hO hfl
      have HF := Lib.hid hf
      obtain ⟨A1, c1, rfl, -, -, -⟩ := hO.rd
      obtain ⟨k, hk⟩ : ∃ k, f.length = k := ⟨_, rfl⟩
      rw [hk] at hO hfl
      have hcq := (HI.out.keep HG.out).cells
      have hfz := frozen_of_heap (i := 1) hcq
      have HO2 := Lib.hid hO
      have HK := Lib.hid hk
      have HCQ := Lib.hid hcq
      clear hf hfin hii hO hcq HO
      rw [HK.out]
      go_wp2
      refine bodyPost_end (results_none rfl _ _ _) rfl ⟨rfl, ?_⟩
      obtain ⟨h1, h2⟩ := rm_set HCQ.out HO2.out HK.out hq (by omega) HI.out.pos HI.out.most
      rw [HF.out]
      exact ⟨⟨A1, k, c1, h1, h2⟩, (Chg.of HG.out).tr (Chg.ofBy (setCell_by wr _ _) (fun b hb => by cases hb; exact .inl rfl))⟩
end Go.Proofs.Ytcllmhabhbnihaa
