/- Intern: the walk of the answer's Put. -/
import Derived.Test.YtbkcpgaicoagfaaInt4
set_option linter.unusedVariables false
set_option linter.unusedSimpArgs false
namespace Go.Proofs.Ytbkcpgaicoagfaa
open Go.RowKit

/-- What the answer's Put leaves. -/
structure RPutQ (w w' : World) (q : Nat) (lv : Value) (out : List Int) (ts' : List ByteArray) (B : Option Addr) (m d : Nat) : Prop where
  rd : Rd w' B m out
  le : m ≤ d
  cap : d ≤ 9223372036854775807
  fresh : FreshA w.heap.size B
  u8 : U8 w' B
  tab : ∃ lv', RefI w' q lv' ts' ∧ (∀ k, ftr q lv' k → ftr q lv k ∨ w.heap.size ≤ k) ∧ ∀ ad, B = some ad → ¬ ftr q lv' ad.block
  chg : Chg (ftr q lv) w w'
theorem Chg.or {F G : Nat → Prop} {a b : World} (h : Chg F a b) : Chg (fun x => F x ∨ G x) a b := h.mono (fun _ => .inl)
theorem grew_by {w w1 : World} {n : Nat} {row : Option Nat} (h : w.grownBy w1 row) (hr : ∀ b, row = some b → n ≤ b) (hn : n ≤ w.heap.size) : Below n w w1 := (Below.refl _ _).grown h hn (fun k e => hr k e)

set_option maxRecDepth 100000 in
set_option maxHeartbeats 1600000 in
theorem rput_any (q : Nat) (lv : Value) (ts : List ByteArray) (s : ByteArray) (A : Option Addr) (n c : Nat) (bs : List Int) (w : World) (hR : RefI w q lv ts) (hr : Rd w A n bs) (hs : s.size ≤ 1000000) (hn : n ≤ 100000000) (hf : ts.length < 1000000) :
    Calls Try.prog 24 #[.pointer (some ⟨q, 0, none⟩), .slice A n c, .string s] w fun e w' => ∃ B m d, e = .returned (.slice B m d) ∧ RPutQ w w' q lv (bs ++ (putT ts s).1) (putT ts s).2 B m d := by
  have hle := idxT_le ts s
  have hap := hR.apart
  have hnl := hr.len
  have HR := Lib.hid hR
  have HNL := Lib.hid hnl
  unfold putT
  by_cases hz : idxT ts s = 0
  · rw [if_pos hz]
    have hat0 := fun (u : World) (h : RefI u q lv ts) => rat_any q lv ts s 0 hz u h
    have hb1 := leb_len (v := (s.size : Int)) (by omega)
    have hby := fun (u : World) => bytes_any (s.size : Int) u (by omega) (by omega)
    have hl0 : leb (0 : Int) = [0] := by decide +kernel
    rw [hl0]
    generalize hl1 : leb (s.size : Int) = l1 at *
    obtain ⟨AL, cL, hlv, hcL, hmL, hrL⟩ := hR.list.rd
    have hql : q < w.heap.size := HR.out.lt (.inl rfl)
    have hcv : ∀ u : World, RefI u q lv ts → u.cell? ⟨q, 0, none⟩ = some (.slice AL ts.length cL) := fun u h => by rw [← hlv]; exact cell_of_heap (i := 0) h.cells rfl
    have hbsl := bsOf_len s
    have HAT := Lib.hid hat0
    have HBY := Lib.hid hby
    have HB1 := Lib.hid hb1
    have HZ := Lib.hid hz
    have HCV := Lib.hid hcv
    have HBS := Lib.hid hbsl
    have HLV := Lib.hid hlv
    have HRL := Lib.hid hrL
    obtain ⟨n6, hn6⟩ : ∃ n6, (bs ++ [0]).length = n6 := ⟨_, rfl⟩
    obtain ⟨n8, hn8⟩ : ∃ n8, (bs ++ [0] ++ l1).length = n8 := ⟨_, rfl⟩
    obtain ⟨n9, hn9⟩ : ∃ n9, (bs ++ [0] ++ l1 ++ bsOf s).length = n9 := ⟨_, rfl⟩
    obtain ⟨n7, hn7⟩ : ∃ n7, l1.length = n7 := ⟨_, rfl⟩
    have hnb : n6 ≤ 100000001 ∧ n7 ≤ 10 ∧ n8 ≤ 100000011 := by
      simp only [List.length_append, List.length_singleton] at hn6 hn8
      omega
    have HN6 := Lib.hid hn6
    have HN7 := Lib.hid hn7
    have HN8 := Lib.hid hn8
    have HN9 := Lib.hid hn9
    clear hn6 hn7 hn8 hn9
    clear hat0 hby hb1 hz hle hR hnl hl0 hcv hbsl hlv hrL
    go_enter Try.func24, Try.ntmps24
    go_wp2_with (first | ((with_reducible refine gate_b .append #[.tmp 9, .tmp 10] _ rfl ?_); refine apps2 (.inl rfl) rfl rfl rfl (own_lit0 w) (hr.al _) (by simp) (by simp; omega) ?_; intro v1 w1 ho1 hg1 hat1; rw [List.nil_append] at ho1; obtain ⟨A1, c1, rfl, hc1, hm1, hr1⟩ := ho1.rd' HNL.out; have hG1 : Grew w w1 := ((Grew.rf w).al (.cells #[] 5)).grown hg1 (by simp) (fun k e => by cases e; exact Nat.le_refl _); have hR1 := HR.out.keep hG1) | (go_at_call 58; refine Calls.mono (HAT.out _ hR1) ?_; rintro e w' ⟨rfl, rfl⟩; have hcv1 := HCV.out _ (hR1.keep ((Grew.rf w1).al (.cells #[] 9))); clear HAT) | ((with_reducible refine gate_b .append #[.tmp 23, .tmp 27] _ rfl ?_); refine appV Try.underlying45 infostr rfl (by decide) (by decide) (.inl rfl) rfl rfl rfl (ownV_lit0 9 1 w1) (HRL.out.keep (hG1.al (.cells #[] 9))) (strs_one ts) (by simp) (by omega) ?_; intro v2 w2 ho2 hg2 hat2; simp only [Nat.zero_add, List.nil_append] at ho2; obtain ⟨A2, c2, rfl, hc2, hm2, hr2⟩ := ho2.rd; have hG2 : Grew w1 w2 := ((Grew.rf w1).al (.cells #[] 9)).grown hg2 (by simp) (fun k e => by cases e; exact Nat.le_refl _)) | ((with_reducible refine gate_b .append #[.tmp 28, .tmp 30] _ rfl ?_); refine appV Try.underlying45 infostr rfl (by decide) (by decide) (.inl rfl) rfl rfl rfl (ho2.keep ((Grew.rf w2).al (.cells #[.string s] 9))) (rdV_lit1 w2 (.string s) 9) (by simp [Value.oneCell']) (by simp; have := hG2.size; omega) (by omega) ?_; intro v3 w3 ho3 hg3 hat3; obtain ⟨A3, c3, rfl, hc3, hm3, hr3⟩ := ho3.rd; have hG3 : Grew w1 w3 := (hG2.al (.cells #[.string s] 9)).grown hg3 (by simp; have := hG2.size; omega) (fun k e => ho2.base_le k e); have hR3 := HR.out.keep (hG1.tr hG3); have hcv3 := HCV.out _ hR3; have hf3 := frozen_of_heap (i := 0) hR3.cells; have ho5 : Own (w3.setCell ⟨q, 0, none⟩ (.slice A3 (ts.length + 1) c3)) w.heap.size (.slice A1 n c1) bs := (ho1.keep hG3).kept (setCell_by _ _ _) (fun b hb he => by cases hb; have := ho1.base_le _ he; simp only at this; omega); have hs5 : w.heap.size ≤ (w3.setCell ⟨q, 0, none⟩ (.slice A3 (ts.length + 1) c3)).heap.size := by rw [setCell_size]; exact (hG1.tr hG3).size) | ((with_reducible refine gate_b .append #[.tmp 34, .tmp 35] _ rfl ?_); refine apps2 (.inl rfl) rfl rfl rfl (ho5.al _) (rd_lit' [0] (setCell_size _ _ _) rfl rfl (by decide)) (by rw [World.size_alloc]; omega) (by rw [HNL.out]; omega) ?_; intro v6 w6 ho6 hg6 hat6; obtain ⟨A6, c6, rfl, hc6, hm6, hr6⟩ := ho6.rd' HN6.out) | (go_at_call 48; refine Calls.mono (HBY.out _) ?_; rintro e w7 ⟨v7, rfl, ho7, hg7⟩; obtain ⟨A7, c7, rfl, hc7, hm7, hr7⟩ := ho7.rd' HN7.out) | ((with_reducible refine gate_b .append #[.tmp 36, .tmp 40] _ rfl ?_); refine apps2 (.inl rfl) rfl rfl rfl (ho6.keep hg7) hr7 (by have := hg6.size; have := hg7.size; rw [World.size_alloc] at *; omega) (by rw [HN6.out]; omega) ?_; intro v8 w8 ho8 hg8 hat8; obtain ⟨A8, c8, rfl, hc8, hm8, hr8⟩ := ho8.rd' HN8.out) | (refine conv_str rfl rfl rfl ?_; intro B9 cb u9 hr9 hg9) | ((with_reducible refine gate_b .append #[.tmp 42, .tmp 44] _ rfl ?_); refine apps2 (.inl rfl) rfl rfl rfl (ho8.keep hg9) hr9 (by have := hg6.size; have := hg7.size; have := hg8.size; have := hg9.size; rw [World.size_alloc] at *; omega) (by rw [HN8.out]; omega) ?_; intro v10 w10 ho10 hg10 hat10; obtain ⟨A10, c10, rfl, hc10, hm10, hr10⟩ := ho10.rd' HN9.out))
    go_ret
    have hg6' : ((w3.setCell ⟨q, 0, none⟩ (.slice A3 (ts.length + 1) c3)).alloc (.cells #[.int .u8 0] 5)).grownBy w6 (Value.slice A1 n c1).ownBlock := hg6
    have hg8' : w7.grownBy w8 (Value.slice A6 n6 c6).ownBlock := hg8
    have hg10' : u9.grownBy w10 (Value.slice A8 n8 c8).ownBlock := hg10
    have ha6 : ∀ b, (Value.slice A6 n6 c6).ownBlock = some b → (Value.slice A1 n c1).ownBlock = some b ∨ w3.heap.size ≤ b := fun b hb => by
      have h := (hat6 b hb).1
      rw [World.size_alloc, setCell_size] at h
      exact h.imp id (fun h => by omega)
    have ha8 : ∀ b, (Value.slice A8 n8 c8).ownBlock = some b → (Value.slice A6 n6 c6).ownBlock = some b ∨ w7.heap.size ≤ b := fun b hb => (hat8 b hb).1
    have ha10 : ∀ b, (Value.slice A10 n9 c10).ownBlock = some b → (Value.slice A8 n8 c8).ownBlock = some b ∨ u9.heap.size ≤ b := fun b hb => (hat10 b hb).1
    have hz6 := hg6'.size
    rw [World.size_alloc, setCell_size] at hz6
    have hz7 := hg7.size
    have hz8 := hg8'.size
    have hz9 := hg9.size
    have hz1 := hG1.size
    have hz3 := hG3.size
    have b1 : ∀ b, (Value.slice A1 n c1).ownBlock = some b → (w.heap.size ≤ b ∧ b < w1.heap.size) ∨ w3.heap.size ≤ b := fun b hb => .inl ⟨ho1.base_le b hb, ho1.lt b hb⟩
    have b6 : ∀ b, (Value.slice A6 n6 c6).ownBlock = some b → (w.heap.size ≤ b ∧ b < w1.heap.size) ∨ w3.heap.size ≤ b := fun b hb => (ha6 b hb).elim (b1 b) .inr
    have b8 : ∀ b, (Value.slice A8 n8 c8).ownBlock = some b → (w.heap.size ≤ b ∧ b < w1.heap.size) ∨ w3.heap.size ≤ b := fun b hb => (ha8 b hb).elim (b6 b) (fun h => .inr (by omega))
    have b10 : ∀ b, (Value.slice A10 n9 c10).ownBlock = some b → (w.heap.size ≤ b ∧ b < w1.heap.size) ∨ w3.heap.size ≤ b := fun b hb => (ha10 b hb).elim (b8 b) (fun h => .inr (by omega))
    have hC4 : Chg (fun b => (w.heap.size ≤ b ∧ b < w1.heap.size) ∨ w3.heap.size ≤ b) (w3.setCell ⟨q, 0, none⟩ (.slice A3 (ts.length + 1) c3)) w10 := by
      exact Chg.tr (Chg.of ((Grew.rf _).al (.cells #[.int .u8 0] 5))) (Chg.or (Chg.tr (Chg.ofBy hg6' b1) (Chg.or (Chg.tr (Chg.of hg7) (Chg.or (Chg.tr (Chg.ofBy hg8' b6) (Chg.or (Chg.tr (Chg.of hg9) (Chg.or (Chg.ofBy hg10' b8))))))))))
    have hl3 : ∀ b, (Value.slice A3 (ts.length + 1) c3).ownBlock = some b → w1.heap.size ≤ b ∧ b < w3.heap.size := fun b hb => ⟨ho3.base_le b hb, ho3.lt hb⟩
    have hc4 := setCell_heap_same hR3.cells (i := 0) (.slice A3 (ts.length + 1) c3)
    have hR4 : RefI (w3.setCell ⟨q, 0, none⟩ (.slice A3 (ts.length + 1) c3)) q (.slice A3 (ts.length + 1) c3) (ts ++ [s]) := by
      refine ⟨by simpa using hc4, ?_, by simp; omega, ?_⟩
      · show OwnV _ 1 _ 0 _ (ts ++ [s]).length ((ts ++ [s]).map Value.string)
        rw [List.map_append, List.length_append]
        exact (ho3.kept (setCell_by _ _ _) (fun b hb he => by cases hb; have h : w1.heap.size ≤ q := (hl3 _ he).1; omega)).lower (Nat.zero_le _)
      · intro t ht
        rcases List.mem_append.1 ht with h | h
        · exact HR.out.size t h
        · rw [List.mem_singleton] at h; subst h; exact hs
    have hnf : ∀ k, ftr q (.slice A3 (ts.length + 1) c3) k → ¬ ((w.heap.size ≤ k ∧ k < w1.heap.size) ∨ w3.heap.size ≤ k) := by
      rintro k (rfl | hk) h
      · omega
      · have := hl3 _ hk; omega
    refine ⟨_, _, _, rfl, ⟨by simpa using hr10, hc10, hm10, ho10.fresh, ho10.u8, ⟨_, hR4.chg hC4 hnf, ?_, ?_⟩, ?_⟩⟩
    · rintro k (rfl | hk)
      · exact .inl (.inl rfl)
      · exact .inr (by have := hl3 _ hk; omega)
    · intro ad e hk
      exact hnf _ hk (b10 _ (by rw [e]; rfl))
    · refine Chg.tr (Chg.of (hG1.tr hG3)) (Chg.tr (Chg.ofBy (setCell_by _ _ _) (fun b hb => by cases hb; exact .inl (.inl rfl))) (hC4.mono (fun k hk => .inl (.inr ?_))))
      rcases hk with h | h <;> omega
  · rw [if_neg hz]
    have hat0 := fun (u : World) (h : RefI u q lv ts) => rat_any q lv ts s _ rfl u h
    have hby := fun (u : World) => bytes_any (idxT ts s : Int) u (by omega) (by omega)
    have hb1 := leb_len (v := (idxT ts s : Int)) (by omega)
    generalize leb (idxT ts s : Int) = l1 at *
    obtain ⟨n7, hn7⟩ : ∃ n7, l1.length = n7 := ⟨_, rfl⟩
    obtain ⟨n8, hn8⟩ : ∃ n8, (bs ++ l1).length = n8 := ⟨_, rfl⟩
    obtain ⟨z, hzz⟩ : ∃ z, idxT ts s = z := ⟨_, rfl⟩
    rw [hzz] at hat0 hby hz hle
    have hz0 : 0 < z := by omega
    have hzl : z ≤ 1000000 := by omega
    have hn10 : n7 ≤ 10 := by omega
    have HAT := Lib.hid hat0
    have HBY := Lib.hid hby
    have HN7 := Lib.hid hn7
    have HN8 := Lib.hid hn8
    clear hat0 hby hb1 hz hzz hle hR hnl hn7 hn8
    go_enter Try.func24, Try.ntmps24
    go_wp2_with (first | ((with_reducible refine gate_b .append #[.tmp 9, .tmp 10] _ rfl ?_); refine apps2 (.inl rfl) rfl rfl rfl (own_lit0 w) (hr.al _) (by simp) (by simp; omega) ?_; intro v1 w1 ho1 hg1 hat1; rw [List.nil_append] at ho1; obtain ⟨A1, c1, rfl, hc1, hm1, hr1⟩ := ho1.rd' HNL.out; have hG1 : Grew w w1 := ((Grew.rf w).al (.cells #[] 5)).grown hg1 (by simp) (fun k e => by cases e; exact Nat.le_refl _); have hR1 := HR.out.keep hG1) | (go_at_call 58; refine Calls.mono (HAT.out _ hR1) ?_; rintro e w' ⟨rfl, rfl⟩; clear HAT) | (go_at_call 48; refine Calls.mono (HBY.out _) ?_; rintro e w7 ⟨v7, rfl, ho7, hg7⟩; obtain ⟨A7, c7, rfl, hc7, hm7, hr7⟩ := ho7.rd' HN7.out) | ((with_reducible refine gate_b .append #[.tmp 17, .tmp 20] _ rfl ?_); refine apps2 (.inl rfl) rfl rfl rfl (ho1.keep hg7) hr7 (by have := hG1.size; have := hg7.size; omega) (by rw [HNL.out]; omega) ?_; intro v8 w8 ho8 hg8 hat8; obtain ⟨A8, c8, rfl, hc8, hm8, hr8⟩ := ho8.rd' HN8.out))
    go_ret
    have hg8' : w7.grownBy w8 (Value.slice A1 n c1).ownBlock := hg8
    have hG8 : Grew w w8 := (hG1.tr hg7).grown hg8' (by have := hG1.size; have := hg7.size; omega) (fun k e => ho1.base_le k e)
    refine ⟨_, _, _, rfl, ⟨hr8, hc8, hm8, ho8.fresh, ho8.u8, ⟨lv, HR.out.keep hG8, fun k hk => .inl hk, fun ad e hk => by have := ho8.fresh ad e; have := HR.out.lt hk; omega⟩, Chg.of hG8⟩⟩
end Go.Proofs.Ytbkcpgaicoagfaa
