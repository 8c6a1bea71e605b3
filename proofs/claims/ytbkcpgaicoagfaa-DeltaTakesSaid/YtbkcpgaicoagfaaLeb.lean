import Derived.Test.YtbkcpgaicoagfaaLen
import Derived.Test.YtbkcpgaicoagfaaPureLeb
set_option linter.unusedVariables false
set_option linter.unusedSimpArgs false
namespace Go.Proofs.Ytbkcpgaicoagfaa
open Go.RowKit

set_option maxHeartbeats 400000 in
theorem bytes_any (v : Int) (w : World) (h0 : 0 ≤ v) (hc : v < 18446744073709551616) :
    Calls Try.prog 48 #[.int .u64 v] w fun e w' => ∃ u, e = .returned u ∧ Own w' w.heap.size u (leb v) ∧ Grew w w' := by
  have HS := LebAt.start h0 hc
  go_enter Try.func48, Try.ntmps48
  go_wp2
  go_loopw [0, 3] (fun n out wr => ∃ (n' : Int) (xs : List Int), n = .int .u64 n' ∧ 0 ≤ n' ∧ n' < 18446744073709551616 ∧ LebAt v xs n' ∧ Own wr w.heap.size out xs ∧ Grew w wr) (fun n _ _ => (intOf n).toNat)
  case atStart => exact ⟨v, [], rfl, h0, hc, HS, own_lit0 w, (Grew.rf w).al _⟩
  case round =>
    obtain ⟨n', xs, rfl, hn0, hn1, HL, HO, HB⟩ := hrel
    have hx := HL.len
    have hsz := HB.size
    by_cases hlt : n' < 128
    · go_wp2_with (at_builtin; refine app1 rfl rfl rfl rfl HO HB hsz (by omega) ?_; intro v1 w1 HO1 HB1 _)
      go_ret
      exact ⟨v1, rfl, by rw [HL.fin hlt]; exact HO1, HB1⟩
    · have hs := HL.step (by omega)
      go_wp2_with (at_builtin; refine app1 rfl rfl rfl rfl HO HB hsz (by omega) ?_; intro v1 w1 HO1 HB1 _)
      go_roundw
      case rel => exact ⟨_, _, rfl, by omega, by omega, hs, HO1, HB1⟩
      case measure => simp [intOf]; omega

theorem or_one {v : Int} (h0 : 0 ≤ v) (h1 : v < 18446744073709551616) : bits .or .u64 v 1 = v + (1 - v % 2) := by
  rw [u64_or v 1 h0 h1 (by omega) (by omega)]
  obtain ⟨k, rfl⟩ := Int.eq_ofNat_of_zero_le h0
  have h : k ||| 1 = 2 * (k / 2) + 1 := by
    have h2 := Nat.two_pow_add_eq_or_of_lt (i := 1) (b := 1) (by omega) (k / 2)
    have h3 : k ||| 1 = (2 * (k / 2)) ||| 1 := by
      apply Nat.eq_of_testBit_eq
      intro i
      cases i with
      | zero => simp
      | succ i =>
        rw [Nat.testBit_succ, Nat.testBit_succ]
        congr 1
        rw [Nat.or_div_two, Nat.or_div_two]
        simp
    rw [h3]
    simpa using h2.symm
  simp only [Int.toNat_natCast, Int.toNat_one, h]
  omega
theorem or_128 {u : Int} (h0 : 0 ≤ u) (h1 : u < 256) : bits .or .u8 u 128 = u % 128 + 128 := by
  obtain ⟨k, rfl⟩ := Int.eq_ofNat_of_zero_le h0
  have hk : k < 256 := by omega
  clear h0 h1
  revert k
  decide +kernel

set_option maxHeartbeats 400000 in
theorem size_any (v : Int) (w : World) (h0 : 0 ≤ v) (h1 : v < 18446744073709551616) :
    Calls Try.prog 74 #[.int .u64 v] w fun e w' => e = .returned (.int .i64 (leb v).length) ∧ w = w' := by
  have hs := leb_size h0 h1
  have ha := blenF_nonneg 64 (v + (1 - v % 2))
  have hb := blenF_le_fuel 64 (v + (1 - v % 2))
  rw [← hs]
  clear hs
  have e1 := or_one h0 h1
  have hc := fun w => len64_any (v + (1 - v % 2)) w (by omega) (by omega)
  generalize blenF 64 (v + (1 - v % 2)) = L at *
  have HC := Lib.hid hc
  clear hc
  go_enter Try.func74, Try.ntmps74
  go_wp2_with (go_at_call 80; refine (HC.out _).mono ?_; rintro e w' ⟨rfl, rfl⟩)
  go_ret
  exact ⟨congrArg (fun z => Ending.returned (Value.int .i64 z)) (by omega), rfl⟩

set_option maxHeartbeats 400000 in
theorem put_any (A : Option Addr) (n c : Nat) (bs : List Int) (v : Int) (w : World) (hr : Rd w A n bs) (hn : n ≤ 140737488355000) (h0 : 0 ≤ v) (h1 : v < 18446744073709551616) :
    Calls Try.prog 41 #[.slice A n c, .int .u64 v] w fun e w' => ∃ u, e = .returned u ∧ Own w' w.heap.size u (bs ++ leb v) ∧ Grew w w' := by
  have HS := LebAt.start h0 h1
  have hl := leb_len h0
  have hc := fun w => size_any v w h0 h1
  have HC := Lib.hid hc
  clear hc
  generalize (leb v).length = L at *
  go_enter Try.func41, Try.ntmps41
  go_wp2_with (first | (go_at_call 74; refine (HC.out _).mono ?_; rintro e w' ⟨rfl, rfl⟩) | (at_make; refine mkrow rfl rfl rfl rfl (n := n) (cp := n + L) rfl (by omega) (by omega) (by omega) (Grew.rf w) (Nat.le_refl _) ?_; intro g w1 HO1 HB1 hb1 hg1 _ HG1) | ((with_reducible refine gate_b .copy #[.tmp 14, .tmp 15] _ rfl ?_); refine cpy rfl rfl rfl rfl HO1 (hr.keep HG1) (Nat.le_refl _) HB1 hb1 ?_; intro w2 HO2 HB2 hb2 _ _))
  rw [List.drop_of_length_le (by simp), List.append_nil] at HO2
  go_frame
  go_loopw [1, 5] (fun n out wr => ∃ (n' : Int) (xs : List Int), n = .int .u64 n' ∧ 0 ≤ n' ∧ n' < 18446744073709551616 ∧ LebAt v xs n' ∧ Own wr w.heap.size out (bs ++ xs) ∧ Grew w wr) (fun n _ _ => (intOf n).toNat)
  case atStart => exact ⟨v, [], rfl, h0, h1, HS, by simpa using HO2, HB2⟩
  case round =>
    obtain ⟨n', xs, rfl, hn0, hn1, HL, HO, HB⟩ := hrel
    have hx := HL.len
    have hsz := HB.size
    have hbl := hr.len
    have o1 := or_128 (u := n' % 256) (by omega) (by omega)
    by_cases hlt : n' < 128
    · go_wp2_with (at_builtin; refine app1 rfl rfl rfl rfl HO HB hsz (by simp; omega) ?_; intro v1 w3 HO3 HB3 _)
      go_ret
      exact ⟨v1, rfl, by rw [HL.fin hlt, ← List.append_assoc]; exact HO3, HB3⟩
    · have hs := HL.step (by omega)
      go_wp2_with (at_builtin; refine app1 rfl rfl rfl rfl HO HB hsz (by simp; omega) ?_; intro v1 w3 HO3 HB3 _)
      go_roundw
      case rel => exact ⟨_, _, rfl, by omega, by omega, hs, by rw [← List.append_assoc]; exact HO3, HB3⟩
      case measure => simp [intOf]; omega

theorem or_shl {ac d : Int} {k : Nat} (h0 : 0 ≤ ac) (h1 : ac < 128 ^ k) (d0 : 0 ≤ d) (hlt : ac + d * 128 ^ k < 18446744073709551616) :
    bits .or .u64 ac (IntKind.u64.wrap (d * 2 ^ (7 * k))) = ac + d * 128 ^ k := by
  have hp : (2 : Int) ^ (7 * k) = 128 ^ k := by rw [Int.pow_mul]; rfl
  obtain ⟨a, rfl⟩ := Int.eq_ofNat_of_zero_le h0
  obtain ⟨e, rfl⟩ := Int.eq_ofNat_of_zero_le d0
  have hn : ((128 ^ k : Nat) : Int) = 128 ^ k := by push_cast; rfl
  rw [hp, ← hn] at *
  have hlt' : a + e * 128 ^ k < 18446744073709551616 := by
    have h5 : ((a + e * 128 ^ k : Nat) : Int) < 18446744073709551616 := by rw [Int.natCast_add, Int.natCast_mul]; exact hlt
    omega
  have h1' : a < 128 ^ k := Int.ofNat_lt.1 h1
  have e1 : IntKind.u64.wrap ((e : Int) * ((128 ^ k : Nat) : Int)) = ((e * 128 ^ k : Nat) : Int) := by
    rw [IntKind.wrap_u64, ← Int.natCast_mul]
    omega
  rw [e1, u64_or_nat _ _ (by omega) (by omega)]
  have h3 := Nat.two_pow_add_eq_or_of_lt (i := 7 * k) (b := a) (by rw [Nat.pow_mul]; exact h1') e
  have h4 : 2 ^ (7 * k) * e = e * 128 ^ k := by rw [Nat.pow_mul, Nat.mul_comm]
  rw [h4] at h3
  rw [Nat.or_comm, ← h3]
  push_cast
  omega

set_option maxHeartbeats 1600000 in
theorem take_any (A : Option Addr) (n c : Nat) (bs : List Int) (at_ : Int) (w : World) (hr : Rd w A n bs) (hb : ∀ x ∈ bs, 0 ≤ x ∧ x ≤ 255) (hnc : n ≤ c) (hn : n ≤ 9223372036854775807) (h0 : -9223372036854775808 ≤ at_) (h1 : at_ ≤ 9223372036854775807) :
    Calls Try.prog 59 #[.slice A n c, .int .i64 at_] w fun e w' => e = .returned (.tuple #[.int .u64 (lebTake bs at_).1, .int .i64 (lebTake bs at_).2.1, .int .i64 (lebTake bs at_).2.2]) ∧ w = w' := by
  by_cases c0 : at_ < 0
  · have e : lebTake bs at_ = (0, 0, 1) := by unfold lebTake; rw [if_pos c0]
    rw [e]
    go_enter Try.func59, Try.ntmps59
    go_wp2
    go_ret3
    exact ⟨rfl, rfl⟩
  · by_cases c1 : (n : Int) < at_
    · have e : lebTake bs at_ = (0, 0, 1) := by unfold lebTake; rw [if_neg c0, hr.len, if_pos c1]
      rw [e]
      go_enter Try.func59, Try.ntmps59
      go_wp2
      go_ret3
      exact ⟨rfl, rfl⟩
    · obtain ⟨i, rfl⟩ := Int.eq_ofNat_of_zero_le (by omega : 0 ≤ at_)
      obtain ⟨A1, hcut, hA1⟩ := cut_lo (kl := .i64) A n c i (by omega) hnc
      have hd := hA1 hr
      have hbd : ∀ x ∈ bs.drop i, 0 ≤ x ∧ x ≤ 255 := fun x hx => hb x (List.mem_of_mem_drop hx)
      have e : lebTake bs (i : Int) = (let r := tkF 0 0 (bs.drop i); if r.2.2 = 0 then (r.1, (i : Int) + r.2.1, 0) else (0, 0, r.2.2)) := by
        unfold lebTake
        rw [if_neg c0, hr.len, if_neg c1, Int.toNat_natCast]
      rw [e]
      clear hb hA1 e
      generalize bs.drop i = ds at *
      obtain ⟨R, hR⟩ : ∃ R, (let r := tkF 0 0 ds; if r.2.2 = 0 then (r.1, (i : Int) + r.2.1, 0) else (0, 0, r.2.2)) = R := ⟨_, rfl⟩
      rw [hR]
      have HR := Lib.hid hR
      clear hR
      go_enter Try.func59, Try.ntmps59
      go_wp2
      go_loop [4, 7, 8, 21] (fun acc t7 t8 idx => ∃ (k : Nat) (ac : Int), acc = .int .u64 ac ∧ idx = .int .i64 k ∧ k ≤ n - i ∧ TkAt ds k ac) (fun _ _ _ idx => n - i - (intOf idx).toNat)
      case atStart => exact ⟨0, 0, rfl, rfl, by omega, TkAt.start ds⟩
      case round =>
        obtain ⟨k, ac, rfl, rfl, hk, hT⟩ := hrel
        by_cases hlt : k < n - i
        · obtain ⟨b, o, rfl, hcell⟩ := hd.at_ hlt
          have hxb := tk_byte hbd (k := k) (by rw [hd.len]; exact hlt)
          obtain ⟨x, hx⟩ : ∃ x, ds.getD k 0 = x := ⟨_, rfl⟩
          rw [hx] at hcell hxb
          have h9 : k ≤ 9 := hT.2.1
          have a0 := hT.2.2.1
          have a1 : ac < 9223372036854775808 := hT.lt
          have hkl : k < ds.length := by rw [hd.len]; exact hlt
          by_cases c9 : k = 9 ∧ 1 < x
          · obtain ⟨rfl, c1x⟩ := c9
            have e := HR.out
            rw [hT.stop9 hkl (by rw [hx]; exact c1x)] at e
            simp at e
            subst e
            clear HR hT hx
            go_wp2
            go_ret3
            exact ⟨rfl, rfl⟩
          · have hfit : x < 128 → ac + x * 128 ^ k < 18446744073709551616 := fun h => hT.fits hxb.1 h c9
            by_cases c128 : 128 ≤ x
            · have HT := hT.more (by rw [hx]; exact c128) (by rw [hx]; exact hxb.2) (by omega) hkl
              have ho := or_shl (d := x - 128) hT.2.2.1 hT.2.2.2 (by omega) (hT.fits (by omega) (by omega) (by omega))
              have HO := Lib.hid ho
              clear ho
              rw [hx] at HT
              clear hx hfit
              have c9' : ¬ k = 9 := by omega
              go_wp2
              go_round
              case rel => exact ⟨k + 1, _, by rw [HO.out], by go_num, by omega, HT⟩
              case measure => simp [intOf]; omega
            · have hfit := hfit (by omega)
              by_cases c00 : x = 0 ∧ 0 < k
              · obtain ⟨rfl, ck⟩ := c00
                have e := HR.out
                rw [hT.stop0 hkl hx ck] at e
                simp at e
                subst e
                clear HR hT hx
                by_cases k9 : k = 9
                · subst k9
                  go_wp2
                  go_ret3
                  exact ⟨rfl, rfl⟩
                · go_wp2
                  go_ret3
                  exact ⟨rfl, rfl⟩
              · have e := HR.out
                rw [hT.done hkl (by rw [hx]; omega) (by rw [hx]; exact c9) (by rw [hx]; exact c00)] at e
                simp only [if_true] at e
                have ho := or_shl hT.2.2.1 hT.2.2.2 hxb.1 hfit
                have HO := Lib.hid ho
                clear ho
                rw [hx] at e
                subst e
                clear HR hx
                by_cases k9 : k = 9
                · subst k9
                  have x1 : x = 1 := by omega
                  subst x1
                  have ho := HO.out
                  simp [IntKind.wrap_u64] at ho
                  have HO2 := Lib.hid ho
                  clear ho HO hfit hT
                  go_wp2
                  go_ret3
                  exact ⟨ret3 (by simpa using HO2.out) (by first | omega | (simp; omega)) rfl, rfl⟩
                · by_cases x0 : x = 0
                  · subst x0
                    have k0 : k = 0 := by omega
                    subst k0
                    have ho := HO.out
                    simp [IntKind.wrap_u64] at ho
                    have HO2 := Lib.hid ho
                    clear ho HO hfit hT
                    rw [Nat.add_zero] at hcell
                    go_wp2
                    go_ret3
                    exact ⟨ret3 (by simpa using HO2.out) (by first | omega | (simp; omega)) rfl, rfl⟩
                  · go_wp2
                    go_ret3
                    exact ⟨ret3 HO.out (by first | omega | (simp; omega)) rfl, rfl⟩
        · have hke : k = n - i := by omega
          have e := HR.out
          rw [hT.short (by rw [hd.len]; exact hke)] at e
          simp at e
          subst e
          clear HR
          go_wp2
          go_ret3
          exact ⟨rfl, rfl⟩

end Go.Proofs.Ytbkcpgaicoagfaa
