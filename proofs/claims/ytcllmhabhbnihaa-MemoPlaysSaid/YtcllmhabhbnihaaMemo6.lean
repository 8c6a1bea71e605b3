/- Memo: slices.DeleteFunc. -/
import Derived.Test.YtcllmhabhbnihaaMemo5
set_option linter.unusedVariables false
set_option linter.unusedSimpArgs false
namespace Go.Proofs.Ytcllmhabhbnihaa
open Go.RowKit

theorem filter_snoc {l : List Ask} {p : Ask → Bool} {j : Nat} {x : Ask} (h : l[j]? = some x) : (l.take (j + 1)).filter (fun y => !p y) = (l.take j).filter (fun y => !p y) ++ (if p x then [] else [x]) := by
  have hj := (List.getElem?_eq_some_iff.1 h).1
  have h2 := (List.getElem?_eq_some_iff.1 h).2
  rw [← List.take_append_getElem hj, List.filter_append, h2]
  cases hp : p x <;> simp [hp]
theorem take_set_snoc {r : List Ask} {i : Nat} (x : Ask) (h : i < r.length) : (r.set i x).take (i + 1) = r.take i ++ [x] := by
  have hl : i < (r.set i x).length := by simpa using h
  rw [← List.take_append_getElem hl, List.take_set_of_le (Nat.le_refl _), List.getElem_set_self]
theorem drop_set {r : List Ask} {i j : Nat} (x : Ask) (h : i < j) : (r.set i x).drop j = r.drop j := List.drop_set_of_lt h

theorem OwnV.sixA {w : World} {base g n c : Nat} {r : List Ask} (h : OwnV 32 6 w base (.slice (some ⟨g, 0, none⟩) n c) n (acs r)) (hr : r.length = n) {i : Nat} (hi : i < n) : ∃ y, SixC w g (i * 6) y := by
  obtain ⟨A, c', e, -, -, hrd⟩ := h.rd
  cases e
  obtain ⟨b, o, y, hA, _, h6⟩ := RdV.atA hrd hi
  cases hA
  rw [Nat.zero_add] at h6
  exact ⟨y, h6⟩

set_option maxRecDepth 100000 in
set_option maxHeartbeats 6400000 in
theorem del_any (v : Value) (base : Nat) (l : List Ask) (g : Nat) (cap : Array Value) (p : Ask → Bool) (w : World) (eg : ∀ args w, (callFunc g args).run Try.prog w = .ok (.enter g args) w) (hO : OwnA w base v l) (hp : PredOk g cap p (fun k => v.ownBlock = some k) w) :
    Calls Try.prog 17 #[v, .func (.func g) #[] cap] w fun e w' => ∃ v', e = .returned v' ∧ OwnA w' base v' (l.filter fun y => !p y) ∧ Chg (fun k => v.ownBlock = some k) w w' ∧ v'.ownBlock = v.ownBlock := by
  obtain ⟨A, c, rfl, hnc, hc, hr⟩ := hO.rd
  have hidx := idx_any A l.length c l g cap p (fun k => (Value.slice A l.length c).ownBlock = some k) w eg hr (by omega) hp
  obtain ⟨n, hn⟩ : ∃ n, l.length = n := ⟨_, rfl⟩
  have HN := Lib.hid hn
  unfold OwnA at hO
  rw [hn] at hnc hr hO hidx hp ⊢
  have HP := Lib.hid hp
  have HO := Lib.hid hO
  by_cases hix : l.findIdx p < l.length
  · have hval : idxA p l = (l.findIdx p : Int) := by unfold idxA; rw [if_pos hix]
    rw [hval] at hidx
    rw [hn] at hix
    have hno : ∀ k y, k < l.findIdx p → l[k]? = some y → p y = false := fun k y hk hy => by
      have h2 := (List.getElem?_eq_some_iff.1 hy)
      have := List.not_of_lt_findIdx hk
      rw [h2.2] at this
      simpa using this
    have hyes : ∀ y, l[l.findIdx p]? = some y → p y = true := fun y hy => by
      have h2 := (List.getElem?_eq_some_iff.1 hy)
      rw [← h2.2]
      exact List.findIdx_getElem (w := h2.1)
    obtain ⟨i0, hi0⟩ : ∃ i0, l.findIdx p = i0 := ⟨_, rfl⟩
    rw [hi0] at hidx hix hno hyes
    have hf0 : (l.take i0).filter (fun y => !p y) = l.take i0 := by
      rw [List.filter_eq_self]
      intro y hy
      obtain ⟨k, hk, rfl⟩ := List.getElem_of_mem hy
      rw [List.length_take] at hk
      have := hno k (l[k]'(by omega)) (by omega) (List.getElem?_eq_getElem _)
      simp [this]
    have hf1 : (l.take (i0 + 1)).filter (fun y => !p y) = l.take i0 := by
      have hx : l[i0]? = some (l[i0]'(by omega)) := List.getElem?_eq_getElem _
      rw [filter_snoc hx, hf0, if_pos (hyes _ hx), List.append_nil]
    have hA : ∃ gb, A = some ⟨gb, 0, none⟩ := by
      rcases hO.own.2 with ⟨hv, h0⟩ | ⟨gb, cp, cur, hv, _⟩
      · omega
      · cases hv; exact ⟨gb, rfl⟩
    obtain ⟨gb, rfl⟩ := hA
    have HIDX := Lib.hid hidx
    have HF1 := Lib.hid hf1
    have hgl : gb < w.heap.size := hO.lt rfl
    have hgbase : base ≤ gb := hO.base_le gb rfl
    have hrl : (l.take i0).length = i0 := by rw [List.length_take]; omega
    have HRL := Lib.hid hrl
    clear hidx hf0 hf1 hno hyes hval hO hr hn hp hrl hi0
    go_enter Try.func17, Try.ntmps17
    go_wp2_with (go_at_call 22; refine Calls.mono HIDX.out ?_; rintro e w1 ⟨rfl, hg1⟩)
    rename (((i0 : Int) == -1) = false) => hbb
    clear hbb
    generalize ((i0 : Int) == -1) = bb
    go_loopw [5, 6] (fun s5 s6 wr => ∃ (i j : Nat) (r : List Ask), s5 = .int .i64 (i : Int) ∧ s6 = .int .i64 (j : Int) ∧ i < j ∧ j ≤ n ∧ r.length = n ∧ RowKit.Hid (r.take i = (l.take j).filter (fun y => !p y) ∧ r.drop j = l.drop j) ∧ OwnV 32 6 wr base (.slice (some ⟨gb, 0, none⟩) n c) n (acs r) ∧ Chg (fun k => (Value.slice (some ⟨gb, 0, none⟩) n c).ownBlock = some k) w wr) (fun _ s6 _ => n - (intOf s6).toNat)
    case atStart => exact ⟨i0, i0 + 1, l, rfl, by go_num, by omega, by omega, HN.out, ⟨HF1.out.symm, rfl⟩, HO.out.keep hg1, Chg.of hg1⟩
    case round =>
      obtain ⟨i, j, r, rfl, rfl, hij, hjn, hrn, HR, hOr, hC⟩ := hrel
      have HRN := Lib.hid hrn
      have HOR := Lib.hid hOr
      have HC := Lib.hid hC
      clear hrn hOr hC
      by_cases hlt : j < n
      · obtain ⟨A', c', e', -, -, hrd⟩ := HOR.out.rd
        cases e'
        obtain ⟨b, o, x, hA, hx, h6⟩ := hrd.atA hlt
        cases hA
        have hxl : l[j]? = some x := by
          have := congrArg (fun q : List Ask => q[0]?) HR.out.2
          simp only [List.getElem?_drop, Nat.add_zero] at this
          rw [← this]; exact hx
        rw [Nat.zero_add] at h6
        obtain ⟨c0, c1, c2, c3, c4, c5⟩ := h6
        have HXL := Lib.hid hxl
        have hsn := filter_snoc (p := p) hxl
        have HSN := Lib.hid hsn
        clear hx hxl hsn hrd
        cases hpx : p x with
        | true =>
          have HPX := Lib.hid hpx
          clear hpx
          go_wp2_with (refine Calls.mono (HP.out _ (HC.out.tr (Chg.of ((Grew.rf _).al _))) x) ?_; rintro e w2 ⟨rfl, hg2⟩; rw [HPX.out]; have HO2 := Lib.hid (HOR.out.keep (((Grew.rf wr).al _).tr hg2)); have HG2 := Lib.hid hg2; clear hg2)
          go_roundw
          case rel =>
            refine ⟨i, j + 1, r, rfl, by go_num, by omega, by omega, HRN.out, ⟨?_, ?_⟩, HO2.out, HC.out.tr (Chg.of (((Grew.rf _).al _).tr HG2.out))⟩
            · rw [HSN.out, if_pos HPX.out, List.append_nil]; exact HR.out.1
            · have := congrArg (List.drop 1) HR.out.2
              simpa [List.drop_drop] using this
          case measure => simp [intOf]; omega
        | false =>
          have HPX := Lib.hid hpx
          clear hpx
          go_wp2_with (refine Calls.mono (HP.out _ (HC.out.tr (Chg.of ((Grew.rf _).al _))) x) ?_; rintro e w2 ⟨rfl, hg2⟩; rw [HPX.out]; have hOr2 := HOR.out.keep (((Grew.rf wr).al _).tr hg2); obtain ⟨d0, d1, d2, d3, d4, d5⟩ := (six_new wr x 32).keep hg2; obtain ⟨y, y0, y1, y2, y3, y4, y5⟩ := hOr2.sixA HRN.out (show i < n by omega); obtain ⟨cur, hcur⟩ := hOr2.block rfl; have f0 := frozen_of_heap (i := i * 6) hcur; have f1 := frozen_of_heap (i := i * 6 + 1) hcur; have f2 := frozen_of_heap (i := i * 6 + 2) hcur; have f3 := frozen_of_heap (i := i * 6 + 3) hcur; have f4 := frozen_of_heap (i := i * 6 + 4) hcur; have f5 := frozen_of_heap (i := i * 6 + 5) hcur; have HO2 := Lib.hid hOr2; have HG2 := Lib.hid hg2; clear hOr2 hg2 hcur)
          go_roundw
          case rel =>
            have hil : i < r.length := by rw [HRN.out]; omega
            have hst := (((((HO2.out.stored (i * 6) (.string x.1)).stored (i * 6 + 1) (.string x.2.1)).stored (i * 6 + 2) (.bool x.2.2.1)).stored (i * 6 + 3) (.string x.2.2.2.1)).stored (i * 6 + 4) (.string x.2.2.2.2.1)).stored (i * 6 + 5) (.int .i64 x.2.2.2.2.2)
            rw [← acs_set r i x hil] at hst
            have hc2 := HC.out.tr (Chg.of (F := fun k => (Value.slice (some ⟨gb, 0, none⟩) n c).ownBlock = some k ∨ w.heap.size ≤ k) (((Grew.rf _).al _).tr HG2.out))
            have hset : ∀ (u : World) (a : Nat) (v : Value), Chg (fun k => (Value.slice (some ⟨gb, 0, none⟩) n c).ownBlock = some k) w u → Chg (fun k => (Value.slice (some ⟨gb, 0, none⟩) n c).ownBlock = some k) w (u.setCell ⟨gb, a, none⟩ v) :=
              fun u a v h => h.tr (Chg.ofBy (setCell_by u ⟨gb, a, none⟩ v) (fun b hb => by cases hb; exact .inl rfl))
            refine ⟨i + 1, j + 1, r.set i x, by go_num, by go_num, by omega, by omega, by rw [List.length_set]; exact HRN.out, ⟨?_, ?_⟩, hst, hset _ _ _ (hset _ _ _ (hset _ _ _ (hset _ _ _ (hset _ _ _ (hset _ _ _ hc2)))))⟩
            · rw [take_set_snoc x hil, HSN.out, if_neg (by rw [HPX.out]; decide), HR.out.1]
            · rw [drop_set x (by omega)]
              have := congrArg (List.drop 1) HR.out.2
              simpa [List.drop_drop] using this
          case measure => simp [intOf]; omega
      · have hjn2 : j = n := by omega
        have hfin : r.take i = l.filter (fun y => !p y) := by rw [HR.out.1, hjn2, List.take_of_length_le (by rw [HN.out]; omega)]
        have hcut1 := cutA_lo (kl := .i64) (some ⟨gb, 0, none⟩) n c i (by omega) hnc
        have hcut2 := cutA_hi (kh := .i64) (some ⟨gb, 0, none⟩) n c i (by omega)
        obtain ⟨B, hB⟩ : ∃ B, (if c = i then (some ⟨gb, 0, none⟩ : Option Addr) else (some ⟨gb, 0, none⟩ : Option Addr).map (·.add (i * 6))) = B := ⟨_, rfl⟩
        rw [hB] at hcut1
        have hB0 : 0 < n - i → B = some ⟨gb, i * 6, none⟩ := fun h => by rw [← hB, if_neg (by omega)]; simp [add_plain]
        obtain ⟨W', hcl, hO', hg'⟩ := clear_row HOR.out i (by omega) B (n - i) (c - i) hB0 (by omega)
        have hn' : (n : Int) - (i : Int) = ((n - i : Nat) : Int) := by omega
        rw [hfin] at hO'
        have hlen : (l.filter fun y => !p y).length = i := by rw [← hfin, List.length_take, HRN.out]; omega
        have HLEN := Lib.hid hlen
        have HO' := Lib.hid hO'
        have HG' := Lib.hid hg'
        have HHN := Lib.hid hn'
        clear hB hB0 hfin hjn2 hO' hg' hlen hn'
        go_wp2
        go_ret
        refine ⟨_, rfl, ?_, HC.out.tr (Chg.ofBy HG'.out (fun b hb => by cases hb; exact .inl rfl)), rfl⟩
        show OwnV _ _ _ _ _ _ _
        rw [HLEN.out]
        exact HO'.out
  · have hno : ∀ y ∈ l, p y = false := fun y hy => by
      cases h : p y with
      | false => rfl
      | true => exact absurd (List.findIdx_lt_length_of_exists ⟨y, hy, h⟩) hix
    have hfl : l.filter (fun y => !p y) = l := by
      rw [List.filter_eq_self]
      intro y hy
      simp [hno y hy]
    have hval : idxA p l = -1 := by unfold idxA; rw [if_neg hix]
    rw [hval] at hidx
    rw [hfl]
    have HIDX := Lib.hid hidx
    clear hidx hO hr hp hn hfl hval hno hix
    go_enter Try.func17, Try.ntmps17
    go_wp2_with (go_at_call 22; refine Calls.mono HIDX.out ?_; rintro e w1 ⟨rfl, hg1⟩)
    go_ret
    refine ⟨_, rfl, ?_, Chg.of hg1, rfl⟩
    show OwnV _ _ _ _ _ _ _
    rw [HN.out]
    exact HO.out.keep hg1
end Go.Proofs.Ytcllmhabhbnihaa
