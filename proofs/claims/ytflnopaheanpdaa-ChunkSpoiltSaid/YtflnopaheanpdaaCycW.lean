/- The walks of cyc and of its answer. -/
import Derived.Test.YtflnopaheanpdaaCyc
set_option linter.unusedVariables false
set_option linter.unusedSimpArgs false
namespace Go.Proofs.Ytflnopaheanpdaa
open Go.RowKit

theorem step_any (n : Nat) (w : World) (hn : n < 4294967296) : Calls Try.prog 15 #[.int .u32 (n : Int)] w fun e w' => e = .returned (.int .u32 ((cStep n : Nat) : Int)) ∧ w = w' := by
  by_cases h : n % 2 = 1
  · have e : cStep n = n / 2 ^^^ 3988292384 := by unfold cStep; rw [if_pos h]
    have hx := u32_xor_nat (n / 2) 3988292384 (by omega) (by omega)
    rw [e, ← hx]
    clear e hx
    go_enter Try.func15, Try.ntmps15
    go_wp2
    go_ret
    exact ⟨rfl, rfl⟩
  · have e : cStep n = n / 2 := by unfold cStep; rw [if_neg h]
    rw [e]
    clear e
    go_enter Try.func15, Try.ntmps15
    go_wp2
    go_ret
    exact ⟨ret1 (by omega), rfl⟩

theorem crc_snoc (n : Nat) (xs : List Int) (x : Int) : crcF n (xs ++ [x]) = c8 (crcF n xs ^^^ x.toNat) := by
  induction xs generalizing n with
  | nil => rfl
  | cons y r ih => rw [List.cons_append, crcF, ih]; rfl
theorem crc_lt {xs : List Int} : ∀ {n : Nat}, Byt xs → n < 4294967296 → crcF n xs < 4294967296 := by
  induction xs with
  | nil => intro n _ h; exact h
  | cons x r ih =>
    intro n hb h
    rw [crcF, c8_eq]
    have hx : x.toNat < 256 := byt8 hb (by simp)
    exact ih (fun y hy => hb y (List.mem_cons_of_mem _ hy)) (cIt_lt 8 (Nat.xor_lt_two_pow (n := 32) (by omega) (by omega)))
theorem byt_take {xs : List Int} (hb : Byt xs) (k : Nat) : Byt (xs.take k) := fun x hx => hb x (List.mem_of_mem_take hx)
theorem take_snoc {xs : List Int} {j : Nat} (hj : j < xs.length) : xs.take (j + 1) = xs.take j ++ [xs.getD j 0] := by
  rw [List.take_add_one, List.getD_eq_getElem?_getD, List.getElem?_eq_getElem hj]; rfl

set_option maxHeartbeats 400000 in
theorem rsum_any (A : Option Addr) (n c : Nat) (bs : List Int) (w : World) (hr : Rd w A n bs) (hb : Byt bs) (hn : n ≤ 9223372036854775807) :
    Calls Try.prog 20 #[.slice A n c] w fun e w' => e = .returned (.int .u32 ((4294967295 - crcF 4294967295 bs : Nat) : Int)) ∧ w = w' := by
  have hl := crc_lt (n := 4294967295) hb (by decide)
  obtain ⟨R, hR⟩ : ∃ R, 4294967295 - crcF 4294967295 bs = R := ⟨_, rfl⟩
  rw [hR]
  have HR := Lib.hid hR
  have HB := Lib.hid hb
  clear hb hR hl
  go_enter Try.func20, Try.ntmps20
  go_wp2
  go_loop [3, 4] (fun s i => ∃ (j m : Nat), i = .int .i64 j ∧ j ≤ n ∧ s = .int .u32 (m : Int) ∧ m < 4294967296 ∧ crcF 4294967295 (bs.take j) = m) (fun _ i => n - (intOf i).toNat)
  case atStart => exact ⟨0, 4294967295, rfl, by omega, rfl, by decide, rfl⟩
  case round =>
    obtain ⟨j, m, rfl, hj, rfl, hm, hS⟩ := hrel
    by_cases hlt : j < n
    · obtain ⟨b, o, rfl, hce⟩ := hr.at_ hlt
      obtain ⟨x, hx⟩ : ∃ x, bs.getD j 0 = x := ⟨_, rfl⟩
      have hbx := byt_get HB.out (j := j) (by rw [hr.len]; exact hlt)
      have hS2 : crcF 4294967295 (bs.take (j + 1)) = c8 (m ^^^ x.toNat) := by rw [take_snoc (by rw [hr.len]; exact hlt), crc_snoc, hS, hx]
      rw [hx] at hce hbx
      have h2 := u32_xor m x (by omega) (by omega) hbx.1 (by omega)
      rw [Int.toNat_natCast] at h2
      have hm2 := Nat.xor_lt_two_pow (n := 32) (x := m) (y := x.toNat) (by omega) (by omega)
      generalize m ^^^ x.toNat = m1 at *
      have HS2 := Lib.hid hS2
      have HS := Lib.hid hS
      have HX := Lib.hid hx
      clear hS2 hS hx
      go_wp2
      go_loop [3, 5] (fun s k => ∃ (i q : Nat), k = .int .i64 i ∧ i ≤ 8 ∧ s = .int .u32 (q : Int) ∧ q < 4294967296 ∧ cIt i m1 = q) (fun _ k => 8 - (intOf k).toNat)
      case atStart => exact ⟨0, m1, rfl, by omega, rfl, hm2, rfl⟩
      case round =>
        obtain ⟨i, q, rfl, hi, rfl, hq, hI⟩ := hrel
        by_cases h8 : i < 8
        · have hI2 : cIt (i + 1) m1 = cStep q := by rw [cIt_succ, hI]
          have hq2 := cStep_lt hq
          have HC := fun w => step_any q w hq
          generalize cStep q = q2 at *
          have HCC := Lib.hid HC
          have HI := Lib.hid hI
          have HI2 := Lib.hid hI2
          clear HC hI hI2
          go_wp2_with (go_at_call 15; refine Calls.mono (HCC.out _) ?_; rintro e w' ⟨rfl, rfl⟩)
          go_round
          case rel => exact ⟨i + 1, q2, by go_num, by omega, rfl, hq2, HI2.out⟩
          case measure => simp [intOf]; omega
        · have hi8 : i = 8 := by omega
          subst hi8
          rw [← c8_eq] at hI
          have HI := Lib.hid hI
          clear hI
          go_wp2
          go_round
          case rel => exact ⟨j + 1, q, by go_num, by omega, rfl, hq, by rw [HS2.out]; exact HI.out⟩
          case measure => simp [intOf]; omega
    · have hje : j = n := by omega
      rw [List.take_of_length_le (by rw [hr.len]; omega)] at hS
      have e := HR.out
      rw [hS] at e
      subst e
      go_wp2
      go_ret
      exact ⟨ret1 (by omega), rfl⟩

theorem sumF_snoc (T : List Int) (n : Nat) (xs : List Int) (x : Int) : sumF T n (xs ++ [x]) = (T.getD ((sumF T n xs % 256) ^^^ x.toNat) 0).toNat ^^^ sumF T n xs / 256 := by
  rw [sumF_append]; rfl

set_option maxHeartbeats 400000 in
theorem by_any (T : List Int) (hT : T.length = 256) (hW : Wrd T) (A : Option Addr) (n c : Nat) (bs : List Int) (w : World) (hr : Rd w A n bs) (hb : Byt bs) (hn : n ≤ 9223372036854775807) :
    Calls Try.prog 23 #[tabV T, .slice A n c] w fun e w' => e = .returned (.int .u32 ((4294967295 - sumF T 4294967295 bs : Nat) : Int)) ∧ Grew w w' := by
  have hl := sumF_lt hW bs 4294967295 (by decide)
  obtain ⟨R, hR⟩ : ∃ R, 4294967295 - sumF T 4294967295 bs = R := ⟨_, rfl⟩
  rw [hR]
  have HR := Lib.hid hR
  have HB := Lib.hid hb
  have HW := Lib.hid hW
  clear hb hR hl hW
  go_enter Try.func23, Try.ntmps23
  go_wp2_with (refine tab_box rfl rfl rfl hT ?_; intro HT)
  have HT0 : ∀ k, k < 256 → World.cell? (w.alloc (.cells (nums .u32 T).toArray 24)) ⟨w.heap.size, k, none⟩ = some (.int .u32 (T.getD k 0)) := fun k hk => HT.cell hk
  have HT1 := Lib.hid HT0
  have hr2 := hr.al (.cells (nums .u32 T).toArray 24)
  have hg : Grew w (w.alloc (.cells (nums .u32 T).toArray 24)) := (Grew.rf w).al _
  obtain ⟨u, hu⟩ : ∃ u, w.alloc (.cells (nums .u32 T).toArray 24) = u := ⟨_, rfl⟩
  obtain ⟨g, hgs⟩ : ∃ g, w.heap.size = g := ⟨_, rfl⟩
  rw [hu] at HT1 hr2 hg ⊢
  rw [hgs] at HT1 ⊢
  clear HT HT0 hr hu hgs
  go_loop [5, 6] (fun s i => ∃ (j m : Nat), i = .int .i64 j ∧ j ≤ n ∧ s = .int .u32 (m : Int) ∧ m < 4294967296 ∧ sumF T 4294967295 (bs.take j) = m) (fun _ i => n - (intOf i).toNat)
  case atStart => exact ⟨0, 4294967295, rfl, by omega, rfl, by decide, rfl⟩
  case round =>
    obtain ⟨j, m, rfl, hj, rfl, hm, hS⟩ := hrel
    by_cases hlt : j < n
    · obtain ⟨b, o, rfl, hce⟩ := hr2.at_ hlt
      obtain ⟨x, hx⟩ : ∃ x, bs.getD j 0 = x := ⟨_, rfl⟩
      have hbx := byt_get HB.out (j := j) (by rw [hr2.len]; exact hlt)
      have hS2 : sumF T 4294967295 (bs.take (j + 1)) = (T.getD ((m % 256) ^^^ x.toNat) 0).toNat ^^^ m / 256 := by rw [take_snoc (by rw [hr2.len]; exact hlt), sumF_snoc, hS, hx]
      rw [hx] at hce hbx
      have h2 := u32_xor_nat (m % 256) x.toNat (by omega) (by omega)
      rw [Int.toNat_of_nonneg hbx.1] at h2
      have hk := idx_lt m x.toNat (by omega)
      generalize (m % 256) ^^^ x.toNat = k at *
      have hct := HT1.out k hk
      have ht := HW.out.getD k
      generalize T.getD k 0 = t at *
      have h3 := u32_xor_nat t.toNat (m / 256) (by omega) (by omega)
      have hm2 := Nat.xor_lt_two_pow (n := 32) (x := t.toNat) (y := m / 256) (by omega) (by omega)
      rw [Int.toNat_of_nonneg ht.1] at h3
      generalize t.toNat ^^^ m / 256 = m1 at *
      rw [show ((m % 256 : Nat) : Int) = (m : Int) % 256 by omega] at h2
      rw [show ((m / 256 : Nat) : Int) = (m : Int) / 256 by omega] at h3
      have HS2 := Lib.hid hS2
      have HS := Lib.hid hS
      have HX := Lib.hid hx
      clear hS2 hS hx
      go_wp2
      go_round
      case rel => exact ⟨j + 1, m1, by go_num, by omega, rfl, hm2, HS2.out⟩
      case measure => simp [intOf]; omega
    · have hje : j = n := by omega
      rw [List.take_of_length_le (by rw [hr2.len]; omega)] at hS
      have e := HR.out
      rw [hS] at e
      subst e
      go_wp2
      go_ret
      exact ⟨ret1 (by omega), hg⟩

theorem four_any (n : Nat) (w : World) (hn : n < 4294967296) :
    Calls Try.prog 22 #[.int .u32 (n : Int)] w fun e w' => ∃ v, e = .returned v ∧ Own w' w.heap.size v [((n % 256 : Nat) : Int), ((n / 256 % 256 : Nat) : Int), ((n / 65536 % 256 : Nat) : Int), ((n / 16777216 : Nat) : Int)] ∧ Grew w w' := by
  go_enter Try.func22, Try.ntmps22
  go_wp2
  go_ret
  have e : [((n % 256 : Nat) : Int), ((n / 256 % 256 : Nat) : Int), ((n / 65536 % 256 : Nat) : Int), ((n / 16777216 : Nat) : Int)] = [(n : Int) % 256, (n : Int) / 256 % 256, (n : Int) / 65536 % 256, (n : Int) / 16777216] := by rw [show ((n % 256 : Nat) : Int) = (n : Int) % 256 by omega, show ((n / 256 % 256 : Nat) : Int) = (n : Int) / 256 % 256 by omega, show ((n / 65536 % 256 : Nat) : Int) = (n : Int) / 65536 % 256 by omega, show ((n / 16777216 : Nat) : Int) = (n : Int) / 16777216 by omega]
  rw [e]
  exact ⟨_, rfl, own_litK 5 .u8 w _ [(n : Int) % 256, (n : Int) / 256 % 256, (n : Int) / 65536 % 256, (n : Int) / 16777216] (Nat.le_refl _) (by simp only [List.length_cons, List.length_nil]; omega), (Grew.rf w).al _⟩
end Go.Proofs.Ytflnopaheanpdaa
