/- Chunk: the pieces, plainly; the walks of piece, Grow, Concat, Equal, Clip. -/
import Derived.Test.YtflnopaheanpdaaLaw02
import Derived.Test.YtflnopaheanpdaaLeb
import Derived.Lib.AppendZeros
set_option linter.unusedVariables false
set_option linter.unusedSimpArgs false
namespace Go.Proofs.Ytflnopaheanpdaa
open Go.RowKit

def pieceL (T : List Int) (xs : List Int) : List Int := (leb (xs.length : Int) ++ xs) ++ fourB (cSum T (leb (xs.length : Int) ++ xs))
/-- Bytes in pieces. -/
def packF : Nat → List Int → List Int → List Int
  | 0, T, xs => pieceL T []
  | k + 1, T, xs => if xs = [] then pieceL T [] else pieceL T (xs.take 256) ++ packF k T (xs.drop 256)
def packL (T : List Int) (xs : List Int) : List Int := packF (xs.length + 1) T xs

theorem fourB_len (n : Nat) : (fourB n).length = 4 := rfl
theorem fourB_byt {n : Nat} (h : n < 4294967296) : Byt (fourB n) := fun x hx => by
  simp [fourB] at hx
  rcases hx with rfl | rfl | rfl | rfl <;> omega
theorem cSum_lt {T : List Int} (hW : Wrd T) (xs : List Int) : cSum T xs < 4294967296 := Nat.xor_lt_two_pow (n := 32) (sumF_lt hW xs _ (by decide)) (by decide)
theorem OwnK.lowerG {e : TypeId} {k : IntKind} {w w' : World} {v : Value} {xs : List Int} (h : OwnK e k w' w'.heap.size v xs) {b : Nat} (hb : b ≤ w'.heap.size) : OwnK e k w' b v xs := h.lower hb

set_option maxRecDepth 100000 in
set_option maxHeartbeats 1600000 in
theorem piece_any (T : List Int) (hT : T.length = 256) (hW : Wrd T) (A : Option Addr) (n c : Nat) (xs : List Int) (w : World) (hr : Rd w A n xs) (hb : Byt xs) (hn : n ≤ 1000000) :
    Calls Try.prog 40 #[tabV T, .slice A n c] w fun e w' => ∃ v, e = .returned v ∧ Own w' w.heap.size v (pieceL T xs) ∧ Grew w w' := by
  unfold pieceL
  rw [hr.len]
  have hl := leb_len (v := (n : Int)) (by omega)
  have hlb : Byt (leb (n : Int)) := leb_byte (by omega)
  have hput := fun (u : World) => put_any none 0 0 [] (n : Int) u (RdK.nil _ _ _) (by omega) (by omega) (by omega)
  simp only [List.nil_append] at hput
  generalize leb (n : Int) = ls at *
  have hlen : (ls ++ xs).length = ls.length + n := by rw [List.length_append, hr.len]
  have hxb : Byt (ls ++ xs) := hlb.app hb
  obtain ⟨R, hR⟩ : ∃ R, cSum T (ls ++ xs) = R := ⟨_, rfl⟩
  have hRl : R < 4294967296 := by rw [← hR]; exact cSum_lt hW _
  have hsum := fun (u : World) A c (hP : Parts u A 1 [ls ++ xs]) => sum_any T hT hW A 1 c _ u hP (by decide)
  rw [show [ls ++ xs].flatten = ls ++ xs by simp, hR] at hsum
  rw [hR]
  have HSUM := Lib.hid hsum
  have HPUT := Lib.hid hput
  have HL := Lib.hid hl
  have HLEN := Lib.hid hlen
  have HRL := Lib.hid hRl
  clear hsum hput hl hlen hR hRl
  go_enter Try.func40, Try.ntmps40
  go_wp2_with (first | (refine tab_box rfl rfl rfl hT ?_; intro HT) | (go_at_call 25; refine Calls.mono (HPUT.out _) ?_; rintro e w1 ⟨v1, rfl, ho1, hg1⟩) | ((with_reducible refine gate_b .append #[.tmp 9, .tmp 10] _ rfl ?_); refine apps rfl rfl rfl rfl ho1 (hr.keep (((Grew.rf w).al _).tr hg1)) hg1 hg1.size (by have := HL.out; omega) ?_; intro v2 w2 ho2 hg2 hb2; obtain ⟨A2, c2, rfl, hc2, hc3, hr2⟩ := ho2.rd' HLEN.out; have hG2 : Grew w w2 := ((Grew.rf w).al _).tr hg2) | (refine tab_load rfl rfl rfl (HT.keep hg2) ?_) | (go_at_call 19; refine Calls.mono (HSUM.out _ _ _ (Parts.lit (vs := [_]) (PartsAt.cons hr2 (by have := HL.out; omega) hxb (PartsAt.nil _)) rfl rfl rfl)) ?_; rintro e w3 ⟨rfl, hg3⟩; have hg3' := ((Grew.rf w2).al _).tr hg3) | (go_at_call 21; refine Calls.mono (cput_any _ _ _ _ R _ (hr2.keep hg3') (by have := HL.out; omega) HRL.out) ?_; rintro e w4 ⟨v4, rfl, ho4, hg4⟩))
  go_ret
  exact ⟨_, rfl, ho4.lower (hG2.tr hg3').size, (hG2.tr hg3').tr hg4⟩

theorem elemG : Try.prog.underlying 3 = some (.int .i64) := Try.underlying3
set_option maxHeartbeats 800000 in
theorem grow_nil (n : Nat) (w : World) (hn : n ≤ 140737488355328) :
    Calls Try.prog 45 #[.slice none 0 0, .int .i64 (n : Int)] w fun e w' => ∃ v, e = .returned v ∧ Own w' w.heap.size v [] ∧ Grew w w' := by
  by_cases h0 : 0 < n
  · obtain ⟨i0, hi, hz0, hz1, hz2⟩ := info_parts infou8
    have hrun := fun (u : World) ty => Lib.run_append_nil_zeros (P := Try.prog) u 28 3 ty 5 i0 (.int .u8 0) .i64 .i64 Try.underlying28 elemG hi hz0 n h0 (by omega) (by omega) (by rw [hz2]; omega)
    have HRUN := Lib.hid hrun
    clear hrun hi hz0 hz1 hz2
    have hge := grownCap_ge w n 0 5
    have hle := grownCap_le_maxLen w n 0 5 (by simp only [maxLen]; omega)
    go_enter Try.func45, Try.ntmps45
    have hcut0 := cut_hi (kh := .i64) none 0 0 0 (by omega)
    have hcut := cut_hi (kh := .i64) (some ⟨w.heap.size, 0, none⟩) n (grownCap w n 0 5) 0 (by omega)
    go_wp2_with ((with_reducible refine gate_b .append #[.tmp 20, .tmp 21] _ rfl ?_); refine Lib.wpList_append_run _ rfl _ _ _ _ rfl _ _ rfl rfl _ _ (HRUN.out _ _) ?_)
    go_ret
    have hsz : ∀ k, (Builtin.zeroCells #[Value.int .u8 0] k).size = k := fun k => by simp [Builtin.zeroCells]
    refine ⟨_, rfl, ⟨⟨by simp [nums], .inr ⟨w.heap.size, _, _, rfl, Nat.le_refl _, heap_alloc_new w _, Nat.zero_le _, hle, ?_, by simp [nums]⟩⟩⟩, ((Grew.rf w).al _).dr⟩
    rw [Array.size_append, hsz, hsz]
    omega
  · obtain rfl : n = 0 := by omega
    go_enter Try.func45, Try.ntmps45
    go_wp2
    go_ret
    exact ⟨_, rfl, OwnK.nil _ _ _ _, Grew.rf w⟩

theorem flat_le (xss : List (List Int)) (j : Nat) : (xss.take j).flatten.length ≤ xss.flatten.length := by
  conv => rhs; rw [← List.take_append_drop j xss, List.flatten_append, List.length_append]
  omega
set_option maxHeartbeats 800000 in
theorem concat_any (A : Option Addr) (n c : Nat) (xss : List (List Int)) (w : World) (hP : Parts w A n xss) (hn : n ≤ 1000) (ht : xss.flatten.length ≤ 1000000000) :
    Calls Try.prog 41 #[.slice A n c] w fun e w' => ∃ v, e = .returned v ∧ Own w' w.heap.size v xss.flatten ∧ Grew w w' := by
  have HP := Lib.hid hP
  have HT := Lib.hid ht
  clear hP ht
  go_enter Try.func41, Try.ntmps41
  go_wp2
  go_loop [3, 11] (fun s i => ∃ (j m : Nat), i = .int .i64 j ∧ j ≤ n ∧ s = .int .i64 (m : Int) ∧ m ≤ 1000000000 ∧ (xss.take j).flatten.length = m) (fun _ i => n - (intOf i).toNat)
  case atStart => exact ⟨0, 0, rfl, by omega, rfl, by omega, rfl⟩
  case round =>
    obtain ⟨j, m, rfl, hj, rfl, hm, hS⟩ := hrel
    by_cases hlt : j < n
    · obtain ⟨b, o, B, k, c2, rfl, hce, hk, hr⟩ := HP.out.cells j hlt
      have hS2 : (xss.take (j + 1)).flatten.length = m + k := by rw [flat_snoc (by rw [HP.out.len]; exact hlt), List.length_append, hS, hr.len]
      have hmk : m + k ≤ 1000000000 := by rw [← hS2]; exact Nat.le_trans (flat_le _ _) HT.out
      have HS2 := Lib.hid hS2
      have HS := Lib.hid hS
      clear hS2 hS
      go_wp2
      go_round
      case rel => exact ⟨j + 1, m + k, by go_num, by omega, by go_num, hmk, HS2.out⟩
      case measure => simp [intOf]; omega
    · have hje : j = n := by omega
      clear hS
      go_wp2_with (go_at_call 45; refine Calls.mono (grow_nil m _ (by omega)) ?_; rintro e w1 ⟨v1, rfl, ho1, hg1⟩)
      go_loopw [6, 27] (fun v i wr => ∃ (j : Nat), i = .int .i64 j ∧ j ≤ n ∧ Own wr w.heap.size v (xss.take j).flatten ∧ Grew w wr) (fun _ i _ => n - (intOf i).toNat)
      case atStart => exact ⟨0, rfl, by omega, by simpa using ho1, hg1⟩
      case round =>
        obtain ⟨i, rfl, hi, hO, hB⟩ := hrel
        by_cases hlt2 : i < n
        · obtain ⟨b, o, B, k, c2, rfl, hce, hk, hr⟩ := HP.out.cells i hlt2
          have hce2 := hB.ce hce
          have hsz := hB.size
          have hS2 : (xss.take (i + 1)).flatten = (xss.take i).flatten ++ xss.getD i [] := flat_snoc (by rw [HP.out.len]; exact hlt2)
          have hbd : (xss.take i).flatten.length + k ≤ 1000000000 := by
            have h1 := flat_le xss (i + 1)
            rw [hS2, List.length_append, hr.len] at h1
            exact Nat.le_trans h1 HT.out
          have HS2 := Lib.hid hS2
          have HBD := Lib.hid hbd
          clear hS2 hbd
          go_wp2_with ((with_reducible refine gate_b .append #[.tmp 31, .tmp 32] _ rfl ?_); refine apps rfl rfl rfl rfl hO (hr.keep hB) hB hsz (by have := HBD.out; omega) ?_; intro v2 w2 ho2 hg2 hb2)
          go_roundw
          case rel => exact ⟨i + 1, by go_num, by omega, by rw [HS2.out]; exact ho2, hg2⟩
          case measure => simp [intOf]; omega
        · have hie : i = n := by omega
          rw [List.take_of_length_le (by rw [HP.out.len]; omega)] at hO
          go_wp2
          go_ret
          exact ⟨_, rfl, hO, hB⟩

theorem clip_any (A : Option Addr) (n c : Nat) (w : World) (hn : n ≤ c) (hc : c ≤ 9223372036854775807) :
    Calls Try.prog 43 #[.slice A n c] w fun e w' => e = .returned (.slice A n n) ∧ w = w' := by
  have hcut : ∀ W : World, (Instr.slice 28 (.slice A n c) none (some (.int .i64 (n : Int))) (some (.int .i64 (n : Int)))).run Try.prog W = .ok (.slice A n n) W := fun W => by
    have hu : Try.prog.underlying 28 = some (.slice (Try.prog.elem 28)) := by rw [elem8]; exact Try.underlying28
    have ha : (A.map fun x => x.add 0) = A := by cases A <;> simp [Addr.add]
    rw [run_slice_hm W 28 A n c hu .i64 .i64 (n : Int) (n : Int) (Int.natCast_nonneg _) (by omega) (by omega), elem8]
    simp [size8, sliced, Result.andThen, ha]
  go_enter Try.func43, Try.ntmps43
  go_wp2
  go_ret
  exact ⟨rfl, rfl⟩

theorem equal_any (A : Option Addr) (n c : Nat) (xs : List Int) (B : Option Addr) (m d : Nat) (ys : List Int) (w : World) (hx : Rd w A n xs) (hy : Rd w B m ys) (bx : Byt xs) (by_ : Byt ys) :
    Calls Try.prog 46 #[.slice A n c, .slice B m d] w fun e w' => e = .returned (.bool (decide (xs = ys))) ∧ w = w' := by
  have h1 := hx.str (c := c)
  have h2 := hy.str (c := d)
  by_cases h : xs = ys
  · have h3 := str_eq h
    rw [decide_eq_true h]
    go_enter Try.func46, Try.ntmps46
    go_wp2
    go_ret
    exact ⟨rfl, rfl⟩
  · have h3 := str_ne bx by_ h
    rw [decide_eq_false h]
    go_enter Try.func46, Try.ntmps46
    go_wp2
    go_ret
    exact ⟨rfl, rfl⟩
end Go.Proofs.Ytflnopaheanpdaa
