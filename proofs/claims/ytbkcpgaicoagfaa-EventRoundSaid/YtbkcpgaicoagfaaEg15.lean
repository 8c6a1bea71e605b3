/- Delta: slices.Grow and slices.Concat at headers. -/
import Derived.Test.YtbkcpgaicoagfaaEg14
import Derived.Lib.AppendZeros
set_option linter.unusedVariables false
set_option linter.unusedSimpArgs false
namespace Go.Proofs.Ytbkcpgaicoagfaa
open Go.RowKit

/-- A slice of slices of headers. -/
structure PartsH (w : World) (A : Option Addr) (n : Nat) (xss : List (List Hdr)) : Prop where
  len : xss.length = n
  cells : ∀ j, j < n → ∃ b o B m c, A = some ⟨b, o, none⟩ ∧ w.cell? ⟨b, o + j, none⟩ = some (.slice B m c) ∧ m ≤ 9223372036854775807 ∧ RdH w B m (xss.getD j [])
theorem flatH_snoc {xss : List (List Hdr)} {j : Nat} (hj : j < xss.length) : (xss.take (j + 1)).flatten = (xss.take j).flatten ++ xss.getD j [] := by
  rw [List.take_add_one, List.getD_eq_getElem?_getD, List.getElem?_eq_getElem hj]
  show (List.take j xss ++ [xss[j]]).flatten = _
  rw [List.flatten_append]
  simp only [List.flatten_cons, List.flatten_nil, List.append_nil]
  rfl
theorem elemGH : Try.prog.underlying 3 = some (.int .i64) := Try.underlying3
set_option maxHeartbeats 800000 in
theorem growH_nil (n : Nat) (w : World) (hn : n ≤ 1000000) :
    Calls Try.prog 75 #[.slice none 0 0, .int .i64 (n : Int)] w fun e w' => ∃ v, e = .returned v ∧ OwnH w' w.heap.size v [] ∧ Grew w w' := by
  by_cases h0 : 0 < n
  · obtain ⟨i0, hi, hz0, hz1, hz2⟩ := info_parts infoH
    have hrun := fun (u : World) ty => Lib.run_append_nil_zeros (P := Try.prog) u 31 3 ty 124 i0 (.agg #[.string ByteArray.empty, .string ByteArray.empty]) .i64 .i64 Try.underlying31 elemGH hi hz0 n h0 (by omega) (by omega) (by rw [hz2]; omega)
    have HRUN := Lib.hid hrun
    clear hrun hi hz0 hz1 hz2
    have hge := grownCap_ge w n 0 124
    have hle := grownCap_le_maxLen w n 0 124 (by simp only [maxLen]; omega)
    go_enter Try.func75, Try.ntmps75
    have hcut0 := cutH_hi (kh := .i64) none 0 0 0 (by omega)
    have hcut := cutH_hi (kh := .i64) (some ⟨w.heap.size, 0, none⟩) n (grownCap w n 0 124) 0 (by omega)
    go_wp2_with ((with_reducible refine gate_b .append #[.tmp 20, .tmp 21] _ rfl ?_); refine Lib.wpList_append_run _ rfl _ _ _ _ rfl _ _ rfl rfl _ _ (HRUN.out _ _) ?_)
    go_ret
    have hsz : ∀ k, (Builtin.zeroCells #[Value.string ByteArray.empty, .string ByteArray.empty] k).size = k * 2 := fun k => by simp [Builtin.zeroCells]
    refine ⟨_, rfl, ⟨⟨by simp [hcs], .inr ⟨w.heap.size, _, _, rfl, Nat.le_refl _, heap_alloc_new w _, Nat.zero_le _, hle, ?_, by simp [hcs]⟩⟩⟩, ((Grew.rf w).al _).dr⟩
    rw [Array.size_append, hsz, hsz]
    omega
  · obtain rfl : n = 0 := by omega
    go_enter Try.func75, Try.ntmps75
    go_wp2
    go_ret
    exact ⟨_, rfl, OwnV.nil _ _ _ _, Grew.rf w⟩

theorem flatH_le (xss : List (List Hdr)) (j : Nat) : (xss.take j).flatten.length ≤ xss.flatten.length := by
  conv => rhs; rw [← List.take_append_drop j xss, List.flatten_append, List.length_append]
  omega
set_option maxHeartbeats 800000 in
theorem concatH_any (A : Option Addr) (n c : Nat) (xss : List (List Hdr)) (w : World) (hP : PartsH w A n xss) (hn : n ≤ 1000) (ht : xss.flatten.length ≤ 1000000) :
    Calls Try.prog 65 #[.slice A n c] w fun e w' => ∃ v, e = .returned v ∧ OwnH w' w.heap.size v xss.flatten ∧ Grew w w' := by
  have HP := Lib.hid hP
  have HT := Lib.hid ht
  clear hP ht
  go_enter Try.func65, Try.ntmps65
  go_wp2
  go_loop [3, 11] (fun s i => ∃ (j m : Nat), i = .int .i64 j ∧ j ≤ n ∧ s = .int .i64 (m : Int) ∧ m ≤ 1000000 ∧ (xss.take j).flatten.length = m) (fun _ i => n - (intOf i).toNat)
  case atStart => exact ⟨0, 0, rfl, by omega, rfl, by omega, rfl⟩
  case round =>
    obtain ⟨j, m, rfl, hj, rfl, hm, hS⟩ := hrel
    by_cases hlt : j < n
    · obtain ⟨b, o, B, k, c2, rfl, hce, hk, hr⟩ := HP.out.cells j hlt
      have hS2 : (xss.take (j + 1)).flatten.length = m + k := by rw [flatH_snoc (by rw [HP.out.len]; exact hlt), List.length_append, hS, hr.lenH]
      have hmk : m + k ≤ 1000000 := by rw [← hS2]; exact Nat.le_trans (flatH_le _ _) HT.out
      have HS2 := Lib.hid hS2
      have HS := Lib.hid hS
      clear hS2 hS
      go_wp2
      go_round
      case rel => exact ⟨j + 1, m + k, by go_num, by omega, by go_num, hmk, HS2.out⟩
      case measure => simp [intOf]; omega
    · have hje : j = n := by omega
      clear hS
      go_wp2_with (go_at_call 75; refine Calls.mono (growH_nil m _ (by omega)) ?_; rintro e w1 ⟨v1, rfl, ho1, hg1⟩)
      go_loopw [6, 27] (fun v i wr => ∃ (j : Nat), i = .int .i64 j ∧ j ≤ n ∧ OwnH wr w.heap.size v (xss.take j).flatten ∧ Grew w wr) (fun _ i _ => n - (intOf i).toNat)
      case atStart => exact ⟨0, rfl, by omega, by simpa using ho1, hg1⟩
      case round =>
        obtain ⟨i, rfl, hi, hO, hB⟩ := hrel
        by_cases hlt2 : i < n
        · obtain ⟨b, o, B, k, c2, rfl, hce, hk, hr⟩ := HP.out.cells i hlt2
          have hce2 := hB.ce hce
          have hsz := hB.size
          have hS2 : (xss.take (i + 1)).flatten = (xss.take i).flatten ++ xss.getD i [] := flatH_snoc (by rw [HP.out.len]; exact hlt2)
          have hbd : (xss.take i).flatten.length + k ≤ 1000000 := by
            have h1 := flatH_le xss (i + 1)
            rw [hS2, List.length_append, hr.lenH] at h1
            exact Nat.le_trans h1 HT.out
          have HS2 := Lib.hid hS2
          have HBD := Lib.hid hbd
          have HRL := Lib.hid hr.lenH
          clear hS2 hbd
          go_wp2_with ((with_reducible refine gate_b .append #[.tmp 31, .tmp 32] _ rfl ?_); refine appV Try.underlying31 infoH zero_hdr (by decide) (by decide) (.inl rfl) rfl rfl rfl hO (hr.keep hB) (hcs_one _) hsz (by have := HBD.out; omega) ?_; intro v2 w2 ho2 hg2 hat2)
          go_roundw
          case rel => exact ⟨i + 1, by go_num, by omega, by rw [HS2.out]; show OwnV _ _ _ _ _ _ _; rw [List.length_append, hcs_append, HRL.out]; exact ho2, hB.grown hg2 hsz (fun k e => hO.base_le k e)⟩
          case measure => simp [intOf]; omega
        · have hie : i = n := by omega
          rw [List.take_of_length_le (by rw [HP.out.len]; omega)] at hO
          go_wp2
          go_ret
          exact ⟨_, rfl, hO, hB⟩

end Go.Proofs.Ytbkcpgaicoagfaa
/- Delta: the walk of Take. -/
set_option linter.unusedVariables false
set_option linter.unusedSimpArgs false
namespace Go.Proofs.Ytbkcpgaicoagfaa
open Go.RowKit

def takeD2 (ts : List ByteArray) (b : List Int) (was : List Hdr) (x y z a : Int) : List Hdr × Int × Int × List ByteArray :=
  if (was.length : Int) < x + y then ([], 0, 5, ts)
  else if 25 < x + y + z then ([], 0, 2, ts)
  else
    let z := takeFs b z.toNat ts a
    if z.2.2.1 ≠ 0 then ([], 0, z.2.2.1, z.2.2.2)
    else
      let out := was.take x.toNat ++ (z.1 ++ was.drop (was.length - y.toNat))
      if endsA was out ≠ x.toNat ∨ endsB was out ≠ y.toNat then ([], 0, 4, z.2.2.2)
      else (out, z.2.1, 0, z.2.2.2)
theorem takeD_err {ts : List ByteArray} {b : List Int} {at_ x y z a er : Int} {was : List Hdr} (h : nums3 b at_ x y z a er) (he : er ≠ 0) : takeD ts b at_ was = ([], 0, er, ts) ∧ a = 0 := by
  unfold nums3 at h
  simp only at h
  unfold takeD
  simp only
  rcases h with ⟨h0, rfl, rfl⟩ | ⟨h0, h1, rfl, rfl⟩ | ⟨h0, h1, h2, rfl, rfl⟩ | ⟨_, _, _, h, _⟩
  · rw [if_pos h0]; exact ⟨rfl, rfl⟩
  · rw [if_neg (by simpa using h0), if_pos h1]; exact ⟨rfl, rfl⟩
  · rw [if_neg (by simpa using h0), if_neg (by simpa using h1), if_pos h2]; exact ⟨rfl, rfl⟩
  · exact absurd h he
theorem takeD_eq {ts : List ByteArray} {b : List Int} {at_ x y z a : Int} {was : List Hdr} (h : nums3 b at_ x y z a 0) (hb : Byt b) : takeD ts b at_ was = takeD2 ts b was x y z a ∧ 0 ≤ x ∧ 0 ≤ y ∧ 0 ≤ z ∧ 0 ≤ a ∧ a ≤ b.length ∧ x < 18446744073709551616 ∧ y < 18446744073709551616 ∧ z < 18446744073709551616 := by
  unfold nums3 at h
  simp only at h
  unfold takeD
  simp only
  rcases h with ⟨h0, h, _⟩ | ⟨_, h1, h, _⟩ | ⟨_, _, h2, h, _⟩ | ⟨h0, h1, h2, _, rfl, rfl, rfl, rfl⟩
  · exact absurd h.symm h0
  · exact absurd h.symm h1
  · exact absurd h.symm h2
  · rw [if_neg (by simpa using h0), if_neg (by simpa using h1), if_neg (by simpa using h2)]
    obtain ⟨⟨v0, a1, e0⟩, q0⟩ : ∃ r, lebTake b at_ = r := ⟨_, rfl⟩
    rw [q0] at h0 h1 h2 ⊢
    simp only at h0 h1 h2 ⊢
    subst h0
    obtain ⟨⟨v1, a2, e1⟩, q1⟩ : ∃ r, lebTake b a1 = r := ⟨_, rfl⟩
    rw [q1] at h1 h2 ⊢
    simp only at h1 h2 ⊢
    subst h1
    obtain ⟨⟨v2, a3, e2⟩, q2⟩ : ∃ r, lebTake b a2 = r := ⟨_, rfl⟩
    rw [q2] at h2 ⊢
    simp only at h2 ⊢
    subst h2
    have k0 := lebTake_exact hb q0
    have k1 := lebTake_exact hb q1
    have k2 := lebTake_exact hb q2
    exact ⟨rfl, by omega, by omega, by omega, by omega, by omega, by omega, by omega, by omega⟩

/-- What delta's Take comes to. -/
def DTakeQ (w : World) (p : Nat) (lv : Value) (mb : Nat) (z : List Hdr × Int × Int × List ByteArray) (e : Ending) (w' : World) : Prop :=
  ∃ v, e = .returned (.tuple #[v, .int .i64 z.2.1, .int .i64 z.2.2.1]) ∧ TakeQ w w' p lv mb z.2.2.2 ∧ (z.2.2.1 = 0 → ∃ B c0, v = .slice B z.1.length z.1.length ∧ OwnH w' w.heap.size (.slice B z.1.length c0) z.1) ∧ (z.2.2.1 ≠ 0 → v = .slice none 0 0)
theorem DTakeQ.err {w w' : World} {p : Nat} {lv : Value} {mb : Nat} {ts : List ByteArray} {er : Int} (he : er ≠ 0) (h : TakeQ w w' p lv mb ts) : DTakeQ w p lv mb ([], 0, er, ts) (.returned (.tuple #[.slice none 0 0, .int .i64 0, .int .i64 er])) w' :=
  ⟨_, rfl, h, fun h => absurd h he, fun _ => rfl⟩

def Pd.partsH (n : Nat) (xss : List (List Hdr)) : Pd := ⟨fun v u => ∃ B, v = .slice (some ⟨B, 0, none⟩) n n ∧ PartsH u (some ⟨B, 0, none⟩) n xss, fun v u u' ⟨B, h, hP⟩ hg => ⟨B, h, hP.len, fun j hj => by
  obtain ⟨b, o, C, m, c, h1, h2, h3, h4⟩ := hP.cells j hj
  exact ⟨b, o, C, m, c, h1, hg.ce h2, h3, h4.keep hg⟩⟩⟩
theorem partsH_lit (u : World) (A1 A2 A3 : Option Addr) (n1 n2 n3 c1 c2 c3 : Nat) (x1 x2 x3 : List Hdr) (t : TypeId) (h1 : RdH u A1 n1 x1) (h2 : RdH u A2 n2 x2) (h3 : RdH u A3 n3 x3) (k1 : n1 ≤ 9223372036854775807) (k2 : n2 ≤ 9223372036854775807) (k3 : n3 ≤ 9223372036854775807) :
    PartsH (u.alloc (.cells #[.slice A1 n1 c1, .slice A2 n2 c2, .slice A3 n3 c3] t)) (some ⟨u.heap.size, 0, none⟩) 3 [x1, x2, x3] := by
  have hg : Grew u (u.alloc (.cells #[.slice A1 n1 c1, .slice A2 n2 c2, .slice A3 n3 c3] t)) := (Grew.rf u).al _
  refine ⟨rfl, fun j hj => ?_⟩
  have hh := heap_alloc_new u (.cells #[.slice A1 n1 c1, .slice A2 n2 c2, .slice A3 n3 c3] t)
  rcases (by omega : j = 0 ∨ j = 1 ∨ j = 2) with rfl | rfl | rfl
  · exact ⟨_, 0, A1, n1, c1, rfl, cell_of_heap hh rfl, k1, h1.keep hg⟩
  · exact ⟨_, 0, A2, n2, c2, rfl, cell_of_heap hh rfl, k2, h2.keep hg⟩
  · exact ⟨_, 0, A3, n3, c3, rfl, cell_of_heap hh rfl, k3, h3.keep hg⟩
def Pd.ownH (base : Nat) (l : List Hdr) : Pd := ⟨fun v u => OwnH u base v l, fun v u u' h hg => h.keep hg⟩
theorem TakeQ.of {w W0 w' w3 : World} {p : Nat} {lv l2 : Value} {mb : Nat} {ts : List ByteArray} (hg : Grew w W0) (hT : TabI w' p l2 mb ts) (hF : ∀ k, ftp p l2 mb k → ftp p lv mb k ∨ W0.heap.size ≤ k) (hC : Chg (ftp p lv mb) W0 w') (hg2 : Grew w' w3) : TakeQ w w3 p lv mb ts :=
  ⟨⟨l2, hT.keep hg2, fun k hk => (hF k hk).imp id (fun h => Nat.le_trans hg.size h)⟩, ((Chg.of hg).tr (hC.mono fun k hk => .inl hk)).tr (Chg.of hg2)⟩
theorem TakeQ.grew {w w' : World} {p : Nat} {lv : Value} {mb : Nat} {ts : List ByteArray} (h : TabI w p lv mb ts) (hg : Grew w w') : TakeQ w w' p lv mb ts := ⟨⟨lv, h.keep hg, fun k hk => .inl hk⟩, Chg.of hg⟩

set_option maxRecDepth 100000 in
set_option maxHeartbeats 3200000 in
theorem dtake_any (p : Nat) (lv : Value) (mb : Nat) (ts : List ByteArray) (A0 : Option Addr) (n0 c0 : Nat) (b : List Int) (at_ : Int) (A : Option Addr) (n c : Nat) (was : List Hdr) (w : World) (hT : TabI w p lv mb ts) (hr : Rd w A0 n0 b) (hs : RdH w A n was) (hA0 : 0 < n0 → ∀ ad, A0 = some ad → ¬ ftp p lv mb ad.block) (hA : 0 < n → ∀ ad, A = some ad → ¬ ftp p lv mb ad.block) (hb : Byt b) (hnc0 : n0 ≤ c0) (hc0 : c0 ≤ 9223372036854775807) (hn0 : n0 ≤ 100000000) (hn : n ≤ 1000) (hnc : n ≤ c) (hc : c ≤ 9223372036854775807) (hf : ts.length + 50 < 1000000) (h0 : -9223372036854775808 ≤ at_) (h1 : at_ ≤ 9223372036854775807) :
    Calls Try.prog 33 #[.slice A0 n0 c0, .int .i64 at_, .pointer (some ⟨p, 0, none⟩), .slice A n c] w (DTakeQ w p lv mb (takeD ts b at_ was)) := by
  have hnum := numbers_any A0 n0 c0 b at_ w hr hb hnc0 hn0 h0 h1
  have HNUM := Lib.hid hnum
  have HT := Lib.hid hT
  have HR := Lib.hid hr
  have HS := Lib.hid hs
  have HA0 := Lib.hid hA0
  have HA := Lib.hid hA
  have HB := Lib.hid hb
  have hnl := hr.len
  have HNL := Lib.hid hnl
  have hwl := hs.lenH
  have HWL := Lib.hid hwl
  clear hnum hT hr hs hA0 hA hb hnl hwl
  go_enter Try.func33, Try.ntmps33
  go_wp2_with fail
  refine Calls.mono HNUM.out ?_
  rintro e w1 ⟨x, y, z, a, er, rfl, hg1, hN⟩
  have HN := Lib.hid hN
  clear hN
  by_cases her : er = 0
  · subst her
    have HE := Lib.hid (takeD_eq (ts := ts) (was := was) HN.out HB.out)
    obtain ⟨hx0, hy0, hz0, ha0, ha1, hx1, hy1, hz1⟩ := HE.out.2
    rw [HNL.out] at ha1
    by_cases hxn : (n : Int) < x
    · have hz : takeD ts b at_ was = ([], 0, 5, ts) := by
        rw [HE.out.1, takeD2, HWL.out, if_pos (by omega)]
      have HZ := Lib.hid hz
      have HG := Lib.hid hg1
      clear hz hg1
      go_wp2_with fail
      go_ret3
      rw [HZ.out]
      exact DTakeQ.err (by decide) (TakeQ.grew HT.out (HG.out.al _))
    · by_cases hyn : (n : Int) - x < y
      · have hz : takeD ts b at_ was = ([], 0, 5, ts) := by
          rw [HE.out.1, takeD2, HWL.out, if_pos (by omega)]
        have HZ := Lib.hid hz
        have HG := Lib.hid hg1
        clear hz hg1
        go_wp2_with fail
        go_ret3
        rw [HZ.out]
        exact DTakeQ.err (by decide) (TakeQ.grew HT.out (HG.out.al _))
      · by_cases hz25 : 25 < z
        · have hz : takeD ts b at_ was = ([], 0, 2, ts) := by
            rw [HE.out.1, takeD2, HWL.out, if_neg (by omega), if_pos (by omega)]
          have HZ := Lib.hid hz
          have HG := Lib.hid hg1
          clear hz hg1
          go_wp2_with fail
          go_ret3
          rw [HZ.out]
          exact DTakeQ.err (by decide) (TakeQ.grew HT.out (HG.out.al _))
        · by_cases hs25 : 25 < x + y + z
          · have hz : takeD ts b at_ was = ([], 0, 2, ts) := by
              rw [HE.out.1, takeD2, HWL.out, if_neg (by omega), if_pos (by omega)]
            have HZ := Lib.hid hz
            have HG := Lib.hid hg1
            clear hz hg1
            go_wp2_with fail
            go_ret3
            rw [HZ.out]
            exact DTakeQ.err (by decide) (TakeQ.grew HT.out (HG.out.al _))
          · obtain ⟨f, rfl⟩ := Int.eq_ofNat_of_zero_le hx0
            obtain ⟨g, rfl⟩ := Int.eq_ofNat_of_zero_le hy0
            obtain ⟨q, rfl⟩ := Int.eq_ofNat_of_zero_le hz0
            have hfg : f + g ≤ n := by omega
            have hfq : f + g + q ≤ 25 := by omega
            obtain ⟨nb, hnb⟩ : ∃ nb, w1.heap.size = nb := ⟨_, rfl⟩
            have hnbl : w.heap.size ≤ nb := by rw [← hnb]; exact hg1.size
            have hfr := fun (u : World) (hg : Grew w u) => dfresh_any p lv mb ts A0 n0 c0 b a q u (HT.out.keep hg) (HR.out.keep hg) HA0.out HB.out hnc0 hc0 hn0 (by omega) (by omega) (by omega)
            obtain ⟨⟨l, a2, er2, ts2⟩, hzf⟩ : ∃ z, takeFs b q ts a = z := ⟨_, rfl⟩
            rw [hzf] at hfr
            have HFR := Lib.hid hfr
            have HZF := Lib.hid hzf
            have HNB := Lib.hid hnb
            have HG := Lib.hid hg1
            have HNBL := Lib.hid hnbl
            have hfl := takeFs_len HB.out q ts a
            rw [hzf] at hfl
            have HFL := Lib.hid hfl
            clear hfr hzf hg1 hnb hnbl hfl hxn hyn hz25 hs25 hx0 hy0 hz0 hx1 hy1 hz1
            go_wp2_with fail
            have hcx := heap_alloc_new w1 (.cells #[.int .u64 (f : Int), .int .u64 (g : Int), .int .u64 (q : Int)] 128)
            obtain ⟨W0, hW0⟩ : ∃ W0, w1.alloc (.cells #[.int .u64 (f : Int), .int .u64 (g : Int), .int .u64 (q : Int)] 128) = W0 := ⟨_, rfl⟩
            have hgW : Grew w W0 := by rw [← hW0]; exact HG.out.al _
            have hsW : W0.heap.size = nb + 1 := by rw [← hW0, World.size_alloc, HNB.out]
            rw [HNB.out, hW0] at hcx ⊢
            have HCX := Lib.hid hcx
            have HGW := Lib.hid hgW
            have HSW := Lib.hid hsW
            clear hcx hgW hsW hW0
            refine Calls.mono (HFR.out _ HGW.out) ?_
            rintro e w2 ⟨v2, rfl, ⟨⟨l2, hT2, hF2⟩, hC2⟩, hO2, hN2⟩
            simp only at hT2 hC2 hO2 hN2
            have HT2 := Lib.hid hT2
            have HC2 := Lib.hid hC2
            have HF2 := Lib.hid hF2
            have HLB := Lib.hid (takeFs_err b q ts a)
            have hfn := HFL.out
            clear hT2 hC2 hF2
            dsimp only
            by_cases her2 : er2 = 0
            · subst her2
              have hO := hO2 rfl
              have hlq := hfn.2.2 rfl
              obtain ⟨B2, c2, rfl, hc2, hm2, hr2⟩ := hO.rd
              rw [hlq] at hc2 hr2 hO ⊢
              clear hO2 hN2 hfn
              have hnf : ¬ ftp p lv mb nb := fun h => by have := HT.out.lt h; have := HNBL.out; omega
              have hx2 := HC2.out.by_ HCX.out hnf
              have hk0 := cell_of_heap (i := 0) hx2 rfl
              have hk1 := cell_of_heap (i := 1) hx2 rfl
              simp only [List.getElem_toArray, List.getElem_cons_zero, List.getElem_cons_succ] at hk0 hk1
              have hS2 : RdH w2 A n was := (HS.out.keep HGW.out).chg HC2.out HA.out
              have HS2 := Lib.hid hS2
              have HO := Lib.hid hO
              have HR2 := Lib.hid hr2
              have hcut1 := cutH_hi (kh := .u64) A n c f (by omega)
              obtain ⟨m, hm⟩ : ∃ m, n - g = m := ⟨_, rfl⟩
              obtain ⟨A3, hsb3, hcut2, hR3⟩ := cutH_lo (kl := .u64) A n c m (by omega) hnc
              have hwr : IntKind.u64.wrap ((n : Int) - (g : Int)) = (m : Int) := by
                rw [IntWalk.u64_in _ ⟨by omega, by omega⟩]; omega
              have hr3 := hR3 hS2
              rw [show n - m = g by omega] at hcut2 hr3
              have HR3 := Lib.hid hr3
              have HM := Lib.hid hm
              have hmn : m ≤ n := by omega
              have HLQ := Lib.hid hlq
              clear hm hsb3 hR3 hr3 hS2 hO hr2 hx2 hnf hlq
              go_wp2_with fail
              obtain ⟨out, hout⟩ : ∃ out, was.take f ++ (l ++ was.drop m) = out := ⟨_, rfl⟩
              have HOUT := Lib.hid hout
              clear hout
              refine region_grew [[], [], [(1, 74)], [(0, 73), (2, 75)], [], [], [], [], [(7, 80)], [(6, 79), (8, 81)], [(5, 78), (9, 82)], [(3, 76), (4, 77), (10, 83)], [(11, 84)], [(12, 85)]] [(0, 73), (1, 74), (2, 75), (3, 76), (4, 77), (5, 78), (6, 79), (7, 80), (8, 81), (9, 82), (10, 83), (11, 84), (12, 85), (13, 8)] (fun
                | 0 => .eqv (.slice A n c) | 1 => .eqv (.pointer (some ⟨nb, 0, none⟩)) | 2 => .eqv (.int .u64 (f : Int)) | 3 => .eqv (.slice A f c) | 4 => .eqv (.slice B2 q c2) | 5 => .eqv (.slice A n c) | 6 => .eqv (.int .u64 (n : Int)) | 7 => .eqv (.pointer (some ⟨nb, 1, none⟩)) | 8 => .eqv (.int .u64 (g : Int)) | 9 => .eqv (.int .u64 (m : Int)) | 10 => .eqv (.slice A3 g (c - m)) | 11 => .partsH 3 [was.take f, l, was.drop m] | 12 => .ownH w2.heap.size out | 13 => .ownH w2.heap.size out | _ => .any) (by kernel_rfl) ?_ ?_
              · refine ⟨fun u hu => ?_, fun u hu => ?_, fun u hu => ?_, fun u hu => ?_, fun u hu => ?_, fun u hu => ?_, fun u hu => ?_, fun u hu => ?_, fun u hu => ?_, fun u hu => ?_, fun u hu => ?_, fun u hu => ?_, fun u hu => ?_, fun u hu => ?_, trivial⟩
                · refine StepGoal.nil ?_
                  go_wp2
                  exact ⟨rfl, rfl, Grew.rf _, rfl⟩
                · refine StepGoal.nil ?_
                  go_wp2
                  exact ⟨rfl, rfl, Grew.rf _, rfl⟩
                · rintro _ rfl
                  have hk0' := hu.ce hk0
                  refine StepGoal.nil ?_
                  simp only [Act.put, List.setIfInBounds_toArray, List.set_cons_zero, List.set_cons_succ]
                  go_wp2
                  exact ⟨rfl, rfl, Grew.rf _, rfl⟩
                · rintro _ rfl _ rfl
                  refine StepGoal.nil ?_
                  simp only [Act.put, List.setIfInBounds_toArray, List.set_cons_zero, List.set_cons_succ]
                  go_wp2
                  exact ⟨rfl, rfl, Grew.rf _, rfl⟩
                · refine StepGoal.nil ?_
                  go_wp2
                  exact ⟨rfl, rfl, Grew.rf _, rfl⟩
                · refine StepGoal.nil ?_
                  go_wp2
                  exact ⟨rfl, rfl, Grew.rf _, rfl⟩
                · refine StepGoal.nil ?_
                  go_wp2
                  exact ⟨rfl, rfl, Grew.rf _, rfl⟩
                · refine StepGoal.nil ?_
                  go_wp2
                  exact ⟨rfl, rfl, Grew.rf _, rfl⟩
                · rintro _ rfl
                  have hk1' := hu.ce hk1
                  refine StepGoal.nil ?_
                  simp only [Act.put, List.setIfInBounds_toArray, List.set_cons_zero, List.set_cons_succ]
                  go_wp2
                  exact ⟨rfl, rfl, Grew.rf _, rfl⟩
                · rintro _ rfl _ rfl
                  refine StepGoal.nil ?_
                  simp only [Act.put, List.setIfInBounds_toArray, List.set_cons_zero, List.set_cons_succ]
                  go_wp2
                  exact ⟨rfl, rfl, Grew.rf _, rfl⟩
                · rintro _ rfl _ rfl
                  refine StepGoal.nil ?_
                  simp only [Act.put, List.setIfInBounds_toArray, List.set_cons_zero, List.set_cons_succ]
                  go_wp2
                  exact ⟨rfl, rfl, Grew.rf _, rfl⟩
                · rintro _ rfl _ rfl _ rfl
                  refine StepGoal.nil ?_
                  simp only [Act.put, List.setIfInBounds_toArray, List.set_cons_zero, List.set_cons_succ]
                  go_wp2
                  exact ⟨rfl, rfl, (Grew.rf _).al _, _, rfl, partsH_lit u A B2 A3 f q g c c2 (c - m) _ _ _ _ ((HS2.out.keep hu).takeH (by omega)) (HR2.out.keep hu) (HR3.out.keep hu) (by omega) (by omega) (by omega)⟩
                · rintro v84 h84
                  obtain ⟨B4, rfl, hP4⟩ : (Pd.partsH 3 [was.take f, l, was.drop m]).p v84 u := h84
                  refine StepGoal.nil ?_
                  simp only [Act.put, List.setIfInBounds_toArray, List.set_cons_zero, List.set_cons_succ]
                  go_wp2_with (go_at_call 65; refine Calls.mono (concatH_any _ 3 3 _ _ hP4 (by omega) (by have h1 := HWL.out; have h2 := HLQ.out; simp only [List.flatten_cons, List.flatten_nil, List.length_append, List.length_take, List.length_drop, List.length_nil]; omega)) ?_; rintro e w' ⟨v, rfl, ho, hg⟩)
                  exact ⟨rfl, rfl, hg, by have ho2 := ho.lower hu.size; simp only [List.flatten_cons, List.flatten_nil, List.append_nil, HOUT.out] at ho2; exact ho2⟩
                · rintro v85 h85
                  refine StepGoal.nil ?_
                  simp only [Act.put, List.setIfInBounds_toArray, List.set_cons_zero, List.set_cons_succ]
                  go_wp2
                  exact ⟨rfl, rfl, Grew.rf _, h85⟩
              · intro u hu
                rintro _ rfl _ rfl _ rfl _ rfl _ rfl _ rfl _ rfl _ rfl _ rfl _ rfl _ rfl v84 h84 v85 h85 v8 h8
                refine StepGoal.nil ?_
                simp only [Act.put, List.setIfInBounds_toArray, List.set_cons_zero, List.set_cons_succ]
                have hO8 : OwnH u w2.heap.size v8 out := h8
                have hol : out.length = f + q + g := by
                  have h1 := HWL.out
                  have h2 := HLQ.out
                  have h3 := HM.out
                  rw [← HOUT.out]
                  simp only [List.length_append, List.length_take, List.length_drop]
                  omega
                obtain ⟨B8, c8, rfl, hc8, hm8, hr8⟩ := hO8.rd
                rw [hol] at hc8 hr8 hO8 ⊢
                have hee := fun (u' : World) (hg : Grew u u') => ends_any A n c was B8 (f + q + g) c8 out u' ((HS2.out.keep hu).keep hg) (hr8.keep hg) (by omega) (by omega)
                obtain ⟨f', hf'⟩ : ∃ f', endsA was out = f' := ⟨_, rfl⟩
                obtain ⟨g', hg'⟩ : ∃ g', endsB was out = g' := ⟨_, rfl⟩
                rw [hf', hg'] at hee
                have hle := endsB_le was out
                rw [hf', hg', HWL.out] at hle
                have hle2 := hle.1
                have HEE := Lib.hid hee
                have HF' := Lib.hid hf'
                have HG' := Lib.hid hg'
                have HO8 := Lib.hid hO8
                have HOL := Lib.hid hol
                have HU := Lib.hid hu
                have hk0' := hu.ce hk0
                have hk1' := hu.ce hk1
                have hzz : takeD ts b at_ was = if f' ≠ f ∨ g' ≠ g then ([], 0, 4, ts2) else (out, a2, 0, ts2) := by
                  rw [HE.out.1, takeD2, HWL.out, if_neg (by omega), if_neg (by omega), Int.toNat_natCast, Int.toNat_natCast, Int.toNat_natCast, HZF.out]
                  simp only
                  rw [if_neg (by simp), HM.out, HOUT.out, HF'.out, HG'.out]
                have HZZ := Lib.hid hzz
                clear hzz hee hf' hg' hle hO8 hol hu h8 hr8 h85 hk0 hk1 hwr
                by_cases hff : f' = f
                · by_cases hgg : g' = g
                  · subst hff; subst hgg
                    go_wp2_with (first | (go_at_call 60; refine Calls.mono (HEE.out _ (Grew.rf _)) ?_; rintro e w5 ⟨rfl, hg5⟩; have hk0'' := hg5.ce hk0'; have hk1'' := hg5.ce hk1') | (go_at_call 66; refine Calls.mono (clipH_any _ _ _ _ hc8 hm8) ?_; rintro e w' ⟨rfl, rfl⟩))
                    go_ret3
                    have hz := HZZ.out
                    rw [if_neg (by simp)] at hz
                    rw [hz]
                    refine ⟨_, rfl, TakeQ.of HGW.out HT2.out HF2.out HC2.out (HU.out.tr hg5), fun _ => ⟨B8, c8, ?_, ?_⟩, fun h => absurd rfl h⟩
                    · simp only [HOL.out]; rfl
                    · simp only [HOL.out]
                      have := (HO8.out.keep hg5).lower (Nat.le_trans HGW.out.size HC2.out.size)
                      exact this
                  · subst hff
                    go_wp2_with (first | (go_at_call 60; refine Calls.mono (HEE.out _ (Grew.rf _)) ?_; rintro e w5 ⟨rfl, hg5⟩; have hk0'' := hg5.ce hk0'; have hk1'' := hg5.ce hk1'))
                    go_ret3
                    have hz := HZZ.out
                    rw [if_pos (.inr hgg)] at hz
                    rw [hz]
                    exact DTakeQ.err (by decide) (TakeQ.of HGW.out HT2.out HF2.out HC2.out (HU.out.tr hg5))
                · by_cases hgg : g' = g
                  · subst hgg
                    go_wp2_with (first | (go_at_call 60; refine Calls.mono (HEE.out _ (Grew.rf _)) ?_; rintro e w5 ⟨rfl, hg5⟩; have hk0'' := hg5.ce hk0'; have hk1'' := hg5.ce hk1'))
                    go_ret3
                    have hz := HZZ.out
                    rw [if_pos (.inl hff)] at hz
                    rw [hz]
                    exact DTakeQ.err (by decide) (TakeQ.of HGW.out HT2.out HF2.out HC2.out (HU.out.tr hg5))
                  · skip
                    go_wp2_with (first | (go_at_call 60; refine Calls.mono (HEE.out _ (Grew.rf _)) ?_; rintro e w5 ⟨rfl, hg5⟩; have hk0'' := hg5.ce hk0'; have hk1'' := hg5.ce hk1'))
                    go_ret3
                    have hz := HZZ.out
                    rw [if_pos (.inl hff)] at hz
                    rw [hz]
                    exact DTakeQ.err (by decide) (TakeQ.of HGW.out HT2.out HF2.out HC2.out (HU.out.tr hg5))
            · have hde2 : decide (er2 = 0) = false := decide_eq_false her2
              have hz : takeD ts b at_ was = ([], 0, er2, ts2) := by
                rw [HE.out.1, takeD2, HWL.out, if_neg (by omega), if_neg (by omega), Int.toNat_natCast, HZF.out]
                simp only
                rw [if_pos her2]
              have HZ := Lib.hid hz
              obtain rfl := hN2 her2
              clear hz hfn hO2 hN2
              go_wp2_with fail
              go_ret3
              rw [HZ.out]
              exact DTakeQ.err her2 (TakeQ.of HGW.out HT2.out HF2.out HC2.out (Grew.rf _))
  · obtain ⟨hz, rfl⟩ := takeD_err (ts := ts) (was := was) HN.out her
    have HZ := Lib.hid hz
    have hde : decide (er = 0) = false := decide_eq_false her
    have HG := Lib.hid hg1
    clear hz hg1
    go_wp2_with fail
    go_ret3
    rw [HZ.out]
    exact DTakeQ.err her (TakeQ.grew HT.out (HG.out.al _))
end Go.Proofs.Ytbkcpgaicoagfaa
