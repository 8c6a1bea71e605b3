/- The walks of cyc.Sum and cyc.Put. -/
import Derived.Test.YtflnopaheanpdaaCycT
set_option linter.unusedVariables false
set_option linter.unusedSimpArgs false
namespace Go.Proofs.Ytflnopaheanpdaa
open Go.RowKit

/-- A slice of slices of bytes that is read. -/
structure Parts (w : World) (A : Option Addr) (n : Nat) (xss : List (List Int)) : Prop where
  len : xss.length = n
  byt : ∀ xs ∈ xss, Byt xs
  cells : ∀ j, j < n → ∃ b o B m c, A = some ⟨b, o, none⟩ ∧ w.cell? ⟨b, o + j, none⟩ = some (.slice B m c) ∧ m ≤ 9223372036854775807 ∧ Rd w B m (xss.getD j [])
theorem Parts.keep {w w' : World} {A : Option Addr} {n : Nat} {xss : List (List Int)} (h : Parts w A n xss) (hg : Grew w w') : Parts w' A n xss :=
  ⟨h.len, h.byt, fun j hj => by
    obtain ⟨b, o, B, m, c, h1, h2, h3, h4⟩ := h.cells j hj
    exact ⟨b, o, B, m, c, h1, hg.ce h2, h3, h4.keep hg⟩⟩
theorem flat_snoc {xss : List (List Int)} {j : Nat} (hj : j < xss.length) : (xss.take (j + 1)).flatten = (xss.take j).flatten ++ xss.getD j [] := by
  rw [List.take_add_one, List.getD_eq_getElem?_getD, List.getElem?_eq_getElem hj]
  show (List.take j xss ++ [xss[j]]).flatten = _
  rw [List.flatten_append]
  simp only [List.flatten_cons, List.flatten_nil, List.append_nil]
  rfl

set_option maxRecDepth 100000 in
set_option maxHeartbeats 1000000 in
theorem sum_any (T : List Int) (hT : T.length = 256) (hW : Wrd T) (A : Option Addr) (n c : Nat) (xss : List (List Int)) (w : World) (hP : Parts w A n xss) (hn : n ≤ 9223372036854775807) :
    Calls Try.prog 19 #[tabV T, .slice A n c] w fun e w' => e = .returned (.int .u32 ((cSum T xss.flatten : Nat) : Int)) ∧ Grew w w' := by
  unfold cSum
  have hl := sumF_lt hW xss.flatten 4294967295 (by decide)
  obtain ⟨R, hR⟩ : ∃ R, sumF T 4294967295 xss.flatten = R := ⟨_, rfl⟩
  rw [hR]
  have HR := Lib.hid hR
  have HW := Lib.hid hW
  clear hR hl hW
  go_enter Try.func19, Try.ntmps19
  go_wp2_with (refine tab_box rfl rfl rfl hT ?_; intro HT)
  have HT0 : ∀ k, k < 256 → World.cell? (w.alloc (.cells (nums .u32 T).toArray 24)) ⟨w.heap.size, k, none⟩ = some (.int .u32 (T.getD k 0)) := fun k hk => HT.cell hk
  have HT1 := Lib.hid HT0
  have hg : Grew w (w.alloc (.cells (nums .u32 T).toArray 24)) := (Grew.rf w).al _
  have hP2 := hP.keep hg
  obtain ⟨u, hu⟩ : ∃ u, w.alloc (.cells (nums .u32 T).toArray 24) = u := ⟨_, rfl⟩
  obtain ⟨g, hgs⟩ : ∃ g, w.heap.size = g := ⟨_, rfl⟩
  rw [hu] at HT1 hP2 hg ⊢
  rw [hgs] at HT1 ⊢
  have HP := Lib.hid hP2
  clear HT HT0 hP hP2 hu hgs
  go_loop [5, 12] (fun s i => ∃ (j m : Nat), i = .int .i64 j ∧ j ≤ n ∧ s = .int .u32 (m : Int) ∧ m < 4294967296 ∧ sumF T 4294967295 (xss.take j).flatten = m) (fun _ i => n - (intOf i).toNat)
  case atStart => exact ⟨0, 4294967295, rfl, by omega, rfl, by decide, rfl⟩
  case round =>
    obtain ⟨j, m, rfl, hj, rfl, hm, hS⟩ := hrel
    by_cases hlt : j < n
    · obtain ⟨b, o, B, k, c2, rfl, hce, hk, hr⟩ := HP.out.cells j hlt
      have hbb : Byt (xss.getD j []) := HP.out.byt _ (by rw [List.getD_eq_getElem?_getD, List.getElem?_eq_getElem (by rw [HP.out.len]; exact hlt)]; exact List.getElem_mem _)
      have hS2 : sumF T 4294967295 (xss.take (j + 1)).flatten = sumF T m (xss.getD j []) := by rw [flat_snoc (by rw [HP.out.len]; exact hlt), sumF_append, hS]
      generalize xss.getD j [] = bs at *
      have HBB := Lib.hid hbb
      have HS2 := Lib.hid hS2
      have HS := Lib.hid hS
      clear hS2 hS hbb
      go_wp2
      go_loop [5, 18] (fun s i => ∃ (i' m' : Nat), i = .int .i64 i' ∧ i' ≤ k ∧ s = .int .u32 (m' : Int) ∧ m' < 4294967296 ∧ sumF T m (bs.take i') = m') (fun _ i => k - (intOf i).toNat)
      case atStart => exact ⟨0, m, rfl, by omega, rfl, hm, rfl⟩
      case round =>
        obtain ⟨i, q, rfl, hi, rfl, hq, hS⟩ := hrel
        by_cases hlt2 : i < k
        · obtain ⟨b2, o2, rfl, hce2⟩ := hr.at_ hlt2
          obtain ⟨x, hx⟩ : ∃ x, bs.getD i 0 = x := ⟨_, rfl⟩
          have hbx := byt_get HBB.out (j := i) (by rw [hr.len]; exact hlt2)
          have hS2 : sumF T m (bs.take (i + 1)) = (T.getD ((q % 256) ^^^ x.toNat) 0).toNat ^^^ q / 256 := by rw [take_snoc (by rw [hr.len]; exact hlt2), sumF_snoc, hS, hx]
          rw [hx] at hce2 hbx
          have h2 := u8_xor_nat (q % 256) x.toNat (by omega) (by omega)
          rw [Int.toNat_of_nonneg hbx.1] at h2
          have hk := idx_lt q x.toNat (by omega)
          generalize (q % 256) ^^^ x.toNat = z at *
          have hct := HT1.out z hk
          have ht := HW.out.getD z
          generalize T.getD z 0 = t at *
          have h3 := u32_xor_nat t.toNat (q / 256) (by omega) (by omega)
          have hm2 := Nat.xor_lt_two_pow (n := 32) (x := t.toNat) (y := q / 256) (by omega) (by omega)
          rw [Int.toNat_of_nonneg ht.1] at h3
          generalize t.toNat ^^^ q / 256 = m1 at *
          rw [show ((q % 256 : Nat) : Int) = (q : Int) % 256 by omega] at h2
          rw [show ((q / 256 : Nat) : Int) = (q : Int) / 256 by omega] at h3
          have HS3 := Lib.hid hS2
          have HS4 := Lib.hid hS
          have HX := Lib.hid hx
          clear hS2 hS hx
          go_wp2
          go_round
          case rel => exact ⟨i + 1, m1, by go_num, by omega, rfl, hm2, HS3.out⟩
          case measure => simp [intOf]; omega
        · have hje : i = k := by omega
          rw [List.take_of_length_le (by rw [hr.len]; omega)] at hS
          have HS5 := Lib.hid hS
          clear hS
          go_wp2
          go_round
          case rel => exact ⟨j + 1, q, by go_num, by omega, rfl, hq, by rw [HS2.out]; exact HS5.out⟩
          case measure => simp [intOf]; omega
    · have hje : j = n := by omega
      rw [List.take_of_length_le (by rw [HP.out.len]; omega)] at hS
      have e := HR.out
      rw [hS] at e
      subst e
      have h4 := u32_xor_nat m 4294967295 hm (by omega)
      have H4 := Lib.hid h4
      clear h4
      go_wp2
      go_ret
      exact ⟨ret1 H4.out, hg⟩

theorem OwnK.cellAt {e : TypeId} {k : IntKind} {W : World} {base g n c : Nat} {xs : List Int} (h : OwnK e k W base (.slice (some ⟨g, 0, none⟩) n c) xs) {i : Nat} (hi : i < n) : W.cell? ⟨g, i, none⟩ = some (.int k (xs.getD i 0)) := by
  obtain ⟨A, c1, he, _, _, hr⟩ := h.rd
  simp only [Value.slice.injEq] at he
  obtain ⟨rfl, rfl, rfl⟩ := he
  obtain ⟨b, o, h1, h2⟩ := hr.at_ hi
  simp only [Option.some.injEq, Addr.mk.injEq] at h1
  obtain ⟨rfl, rfl, _⟩ := h1
  simpa using h2
theorem OwnK.frozenAt {e : TypeId} {k : IntKind} {W : World} {base g n c : Nat} {xs : List Int} (h : OwnK e k W base (.slice (some ⟨g, 0, none⟩) n c) xs) (i : Nat) : W.frozen? ⟨g, i, none⟩ = false := by
  obtain ⟨A, c1, he, _⟩ := h.rd
  simp only [Value.slice.injEq] at he
  obtain ⟨_, rfl, _⟩ := he
  exact h.own.frozenAt i
def fourB (n : Nat) : List Int := [((n % 256 : Nat) : Int), ((n / 256 % 256 : Nat) : Int), ((n / 65536 % 256 : Nat) : Int), ((n / 16777216 : Nat) : Int)]
def fourAt (n i : Nat) : List Int := (fourB n).take i ++ List.replicate (4 - i) 0
theorem fourAt_set (n i : Nat) (bs : List Int) (hi : i < 4) (hn : n < 4294967296) : (bs ++ fourAt n i).set (bs.length + i) (((n / 2 ^ (8 * i) % 256 : Nat) : Int)) = bs ++ fourAt n (i + 1) := by
  rw [List.set_append]
  rw [if_neg (by omega), Nat.add_sub_cancel_left]
  congr 1
  rcases (by omega : i = 0 ∨ i = 1 ∨ i = 2 ∨ i = 3) with rfl | rfl | rfl | rfl <;> simp [fourAt, fourB, List.replicate]
  omega

set_option maxHeartbeats 1000000 in
theorem cput_any (A : Option Addr) (n c : Nat) (bs : List Int) (v : Nat) (w : World) (hr : Rd w A n bs) (hn : n ≤ 140737488355000) (hv : v < 4294967296) :
    Calls Try.prog 21 #[.slice A n c, .int .u32 (v : Int)] w fun e w' => ∃ u, e = .returned u ∧ Own w' w.heap.size u (bs ++ fourB v) ∧ Grew w w' := by
  go_enter Try.func21, Try.ntmps21
  go_wp2_with (first | (at_make; refine mkrow rfl rfl rfl rfl (n := n + 4) (cp := n + 4) rfl rfl (by omega) (by omega) (Grew.rf w) (Nat.le_refl _) ?_; intro g w1 HO1 HB1 hb1 hg1 _ HG1) | ((with_reducible refine gate_b .copy #[.tmp 12, .tmp 13] _ rfl ?_); refine cpy rfl rfl rfl rfl HO1 (hr.keep HG1) (by omega) HB1 hb1 ?_; intro w2 HO2 HB2 hb2 _ _))
  rw [List.drop_replicate, show n + 4 - n = 4 by omega] at HO2
  go_loopw [15] (fun i wr => ∃ (j : Nat), i = .int .i64 j ∧ j ≤ 4 ∧ Own wr w.heap.size (.slice (some ⟨g, 0, none⟩) (n + 4) (n + 4)) (bs ++ fourAt v j) ∧ Grew w wr) (fun i _ => 4 - (intOf i).toNat)
  case atStart => exact ⟨0, rfl, by omega, HO2, HB2⟩
  case round =>
    obtain ⟨j, rfl, hj, HO, HB⟩ := hrel
    by_cases hlt : j < 4
    · have hS := HO.store (n + j) (((v / 2 ^ (8 * j) % 256 : Nat) : Int))
      have hce := HO.cellAt (i := n + j) (by omega)
      have hfr := HO.frozenAt (n + j)
      have hset := fourAt_set v j bs hlt hv
      rw [hr.len] at hset
      rw [hset] at hS
      have hq : (v : Int) / 2 ^ (8 * j) % 256 = ((v / 2 ^ (8 * j) % 256 : Nat) : Int) := by
        rw [Int.natCast_emod, Int.natCast_ediv, Int.natCast_pow]; rfl
      generalize v / 2 ^ (8 * j) % 256 = q at *
      obtain ⟨old, ho⟩ : ∃ old, Value.int .u8 ((bs ++ fourAt v j).getD (n + j) 0) = old := ⟨_, rfl⟩
      rw [ho] at hce
      have HS := Lib.hid hS
      clear hS ho hset
      go_wp2
      go_roundw
      case rel => exact ⟨j + 1, by go_num, by omega, HS.out, HB.st hg1 _⟩
      case measure => simp [intOf]; omega
    · have hje : j = 4 := by omega
      subst hje
      go_wp2
      go_ret
      exact ⟨_, rfl, by simpa [fourAt, fourB] using HO, HB⟩
end Go.Proofs.Ytflnopaheanpdaa
