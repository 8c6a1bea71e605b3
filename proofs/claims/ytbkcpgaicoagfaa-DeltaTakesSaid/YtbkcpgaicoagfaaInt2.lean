/- Intern: the walk of Put. -/
import Derived.Test.YtbkcpgaicoagfaaInt1
import Derived.Test.YtbkcpgaicoagfaaLeb
set_option linter.unusedVariables false
set_option linter.unusedSimpArgs false
namespace Go.Proofs.Ytbkcpgaicoagfaa
open Go.RowKit

/-- What a table's Put leaves. -/
structure PutQ (w w' : World) (p : Nat) (lv : Value) (mb : Nat) (out : List Int) (ts' : List ByteArray) (B : Option Addr) (m d : Nat) : Prop where
  rd : Rd w' B m out
  le : m ≤ d
  cap : d ≤ 9223372036854775807
  fresh : FreshA w.heap.size B
  u8 : U8 w' B
  tab : ∃ lv', TabI w' p lv' mb ts' ∧ (∀ k, ftp p lv' mb k → ftp p lv mb k ∨ w.heap.size ≤ k) ∧ ∀ ad, B = some ad → ¬ ftp p lv' mb ad.block
  chg : Chg (ftp p lv mb) w w'

set_option maxRecDepth 100000 in
set_option maxHeartbeats 1600000 in
theorem tput_any (p : Nat) (lv : Value) (mb : Nat) (ts : List ByteArray) (s : ByteArray) (A : Option Addr) (n c : Nat) (bs : List Int) (w : World) (hT : TabI w p lv mb ts) (hr : Rd w A n bs) (hA : 0 < n → ∀ ad, A = some ad → ¬ ftp p lv mb ad.block) (hs : s.size ≤ 1000000) (hn : n ≤ 100000000) (hf : ts.length < 1000000) :
    Calls Try.prog 23 #[.pointer (some ⟨p, 0, none⟩), .slice A n c, .string s] w fun e w' => ∃ B m d, e = .returned (.slice B m d) ∧ PutQ w w' p lv mb (bs ++ (putT ts s).1) (putT ts s).2 B m d := by
  have hcb : w.cell? ⟨p, 1, none⟩ = some (.map (some mb)) := cell_of_heap (i := 1) hT.cells rfl
  have hM := hT.map
  have hT' := Lib.hid hT
  have hle := idxT_le ts s
  unfold putT
  by_cases hz : idxT ts s = 0
  · rw [if_pos hz]
    have htl := fun (u : World) (h : TabI u p lv mb ts) => tell_any p lv mb ts s u h hs hf hz
    have hb0 := leb_len (v := (0 : Int)) (by omega)
    have hb1 := leb_len (v := (s.size : Int)) (by omega)
    have hp0 := fun (u : World) (h : Rd u A n bs) => put_any A n c bs 0 u h (by omega) (by omega) (by omega)
    have hp1 := fun (u : World) (A2 : Option Addr) (n2 c2 : Nat) (h : Rd u A2 n2 (bs ++ leb 0)) (h2 : n2 ≤ 100000100) => put_any A2 n2 c2 (bs ++ leb 0) (s.size : Int) u h (by omega) (by omega) (by omega)
    generalize hl0 : leb (0 : Int) = l0 at *
    generalize hl1 : leb (s.size : Int) = l1 at *
    have hdd : decide (idxT ts s ≠ 0) = false := decide_eq_false (by simp [hz])
    have HTL := Lib.hid htl
    have HP0 := Lib.hid hp0
    have HP1 := Lib.hid hp1
    have HB0 := Lib.hid hb0
    have HB1 := Lib.hid hb1
    have HZ := Lib.hid hz
    have hnl := hr.len
    obtain ⟨n2, hn2⟩ : ∃ n2, (bs ++ l0).length = n2 := ⟨_, rfl⟩
    obtain ⟨n3, hn3⟩ : ∃ n3, (bs ++ l0 ++ l1).length = n3 := ⟨_, rfl⟩
    obtain ⟨n4, hn4⟩ : ∃ n4, (bs ++ l0 ++ l1 ++ bsOf s).length = n4 := ⟨_, rfl⟩
    have hnb : n2 ≤ 100000010 ∧ n3 ≤ 100000020 := by
      simp only [List.length_append] at hn2 hn3
      omega
    have HN2 := Lib.hid hn2
    have HN3 := Lib.hid hn3
    have HN4 := Lib.hid hn4
    clear hn2 hn3 hn4
    clear htl hp0 hp1 hT hb0 hnl hb1 hz hle
    go_enter Try.func23, Try.ntmps23
    go_wp2_with (first | (refine look_num rfl rfl rfl rfl (by omega) hM ?_; rw [hdd]) | (go_at_call 57; refine Calls.mono (HTL.out _ hT'.out) ?_; rintro e w1 ⟨rfl, lv1, hT1, hC1, hF1⟩) | (go_at_call 41; refine Calls.mono (HP1.out _ A2 n2 c2 hr2 (by omega)) ?_; rintro e w3 ⟨v3, rfl, ho3, hg3⟩) | (go_at_call 41; refine Calls.mono (HP0.out _ (hr.chg hC1 hA)) ?_; rintro e w2 ⟨v2, rfl, ho2, hg2⟩; obtain ⟨A2, c2, rfl, hc2, hm2, hr2⟩ := ho2.rd' HN2.out) | ((with_reducible refine gate_b .append #[.tmp 34, .tmp 35] _ rfl ?_); refine appStr rfl rfl rfl rfl ho3 hg3.size (by rw [HN3.out]; omega) ?_; intro v4 w4 ho4 hg4; obtain ⟨A4, c4, rfl, hc4, hm4, hr4⟩ := ho4.rd' HN4.out) | (go_at_call 47; refine Calls.mono (clip_any _ _ _ _ hc4 hm4) ?_; rintro e w' ⟨rfl, rfl⟩))
    go_ret
    have hT3 := hT1.keep (hg2.tr hg3)
    have hlt3 : ∀ k, ftp p lv1 mb k → k < w2.heap.size := fun k hk => Nat.lt_of_lt_of_le (hT1.lt hk) hg2.size
    have hC4 : Chg (fun k => v3.ownBlock = some k) w3 w4 := Chg.ofBy hg4 (fun b hb => hb)
    have hT4 := hT3.chg hC4 (fun k hk he => by have := ho3.base_le k he; have := hlt3 k hk; omega)
    have hws := hC1.size
    refine ⟨_, _, _, rfl, ⟨?_, Nat.le_refl _, by omega, ho4.fresh.mono (by have := hg2.size; omega), ho4.u8, ⟨lv1, hT4, hF1, fun ad e hk => by have := ho4.fresh ad e; have := hlt3 _ hk; omega⟩, ?_⟩⟩
    · rw [show bs ++ (l0 ++ (l1 ++ bsOf s)) = (bs ++ l0 ++ l1) ++ bsOf s by simp]
      exact hr4
    · refine Chg.tr hC1 (Chg.tr (Chg.of (hg2.tr hg3)) (hC4.mono fun k hk => ?_))
      have := ho3.base_le k hk
      have := hg2.size
      exact .inl (.inr (by omega))
  · rw [if_neg hz]
    have hp0 := fun (u : World) (h : Rd u A n bs) => put_any A n c bs (idxT ts s : Int) u h (by omega) (by omega) (by omega)
    have hdd : decide (idxT ts s ≠ 0) = true := decide_eq_true hz
    obtain ⟨n2, hn2⟩ : ∃ n2, (bs ++ leb (idxT ts s : Int)).length = n2 := ⟨_, rfl⟩
    have HN2 := Lib.hid hn2
    have HP0 := Lib.hid hp0
    have HZ := Lib.hid hz
    clear hp0 hT hz hn2
    go_enter Try.func23, Try.ntmps23
    go_wp2_with (first | (refine look_num rfl rfl rfl rfl (by omega) hM ?_; rw [hdd]) | (go_at_call 41; refine Calls.mono (HP0.out _ hr) ?_; rintro e w2 ⟨v2, rfl, ho2, hg2⟩; obtain ⟨A2, c2, rfl, hc2, hm2, hr2⟩ := ho2.rd' HN2.out))
    go_ret
    refine ⟨_, _, _, rfl, ⟨hr2, hc2, hm2, ho2.fresh, ho2.u8, ⟨lv, hT'.out.keep hg2, fun k hk => .inl hk, fun ad e hk => by have := ho2.fresh ad e; have := hT'.out.lt hk; omega⟩, Chg.of hg2⟩⟩
end Go.Proofs.Ytbkcpgaicoagfaa
