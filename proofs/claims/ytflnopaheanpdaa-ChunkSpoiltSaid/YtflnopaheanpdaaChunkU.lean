/- Chunk: the walk of Unpack. -/
import Derived.Test.YtflnopaheanpdaaChunkOne
set_option linter.unusedVariables false
set_option linter.unusedSimpArgs false
namespace Go.Proofs.Ytflnopaheanpdaa
open Go.RowKit

/-- An address that lies at or beyond block b. -/
def FreshA (b : Nat) (A : Option Addr) : Prop := ∀ ad, A = some ad → b ≤ ad.block
theorem FreshA.none (b : Nat) : FreshA b Option.none := fun _ h => by cases h
theorem FreshA.mono {b b' : Nat} {A : Option Addr} (h : FreshA b A) (hb : b' ≤ b) : FreshA b' A := fun ad e => Nat.le_trans hb (h ad e)
theorem OwnK.fresh {e : TypeId} {k : IntKind} {w : World} {base : Nat} {A : Option Addr} {n c : Nat} {xs : List Int} (h : OwnK e k w base (.slice A n c) xs) : FreshA base A := by
  intro ad hA
  rcases h.own.2 with ⟨hv, _⟩ | ⟨g, cap, cur, hv, hg, _⟩
  · cases hv; cases hA
  · cases hv; cases hA; exact hg
theorem RdK.setOther {k : IntKind} {w : World} {A : Option Addr} {n : Nat} {xs : List Int} {b : Nat} (h : RdK k w A n xs) (hf : FreshA b A) {p : Addr} (hp : p.block < b) (v : Value) : RdK k (w.setCell p v) A n xs :=
  ⟨h.len, fun hn => by
    obtain ⟨bb, o, e, hc⟩ := h.cells hn
    refine ⟨bb, o, e, fun j hj => ?_⟩
    have hb := hf _ e
    rw [← hc j hj]
    have hne : bb ≠ p.block := by simp only at hb; omega
    refine World.cell?_of_block ?_
    simp [World.setCell, Array.getElem?_modify, Ne.symm hne]⟩
theorem oneP_ok {T s : List Int} {a nx : Int} {full : Bool} {p : List Int} (hb : Byt s) (h : oneP T s a full = (p, nx, 0)) : 0 ≤ a ∧ a + 5 + (p.length : Int) ≤ nx ∧ nx ≤ (s.length : Int) ∧ p.length ≤ 256 := by
  obtain ⟨⟨v, n0, er⟩, hq⟩ : ∃ r, lebTake s a = r := ⟨_, rfl⟩
  unfold oneP at h
  rw [hq] at h
  simp only at h
  by_cases c1 : er = 0
  · subst c1
    obtain ⟨q0, q1, q2, _, q4, _⟩ := lebTake_exact hb hq
    rw [if_neg (by simp)] at h
    by_cases c2 : 256 < v
    · rw [if_pos c2] at h; cases h
    · rw [if_neg c2] at h
      by_cases c3 : 0 < v ∧ full = false
      · rw [if_pos c3] at h; cases h
      · rw [if_neg c3] at h
        by_cases c4 : (s.length : Int) < n0 + v + 4
        · rw [if_pos c4] at h; cases h
        · rw [if_neg c4] at h
          split at h
          · simp only [Prod.mk.injEq] at h
            obtain ⟨h1, h2, _⟩ := h
            subst h1
            rw [List.length_drop, List.length_take]
            omega
          · cases h
  · rw [if_pos c1] at h
    simp only [Prod.mk.injEq] at h
    exact absurd h.2.2 c1

set_option maxRecDepth 100000 in
set_option maxHeartbeats 1600000 in
theorem cunpack_any (T : List Int) (hT : T.length = 256) (hW : Wrd T) (A : Option Addr) (n c : Nat) (s : List Int) (at_ : Int) (w : World) (hr : Rd w A n s) (hb : Byt s) (hnc : n ≤ c) (hc : c ≤ 9223372036854775807) (hn : n ≤ 1000000) (h0 : -9223372036854775808 ≤ at_) (h1 : at_ ≤ 9223372036854775807) :
    Calls Try.prog 36 #[tabV T, .slice A n c, .int .i64 at_] w fun e w' => ∃ B m d, e = .returned (.tuple #[.slice B m d, .int .i64 (unpackL T s at_).2.1, .int .i64 (unpackL T s at_).2.2]) ∧ Rd w' B m (unpackL T s at_).1 ∧ m ≤ d ∧ d ≤ 9223372036854775807 ∧ Grew w w' ∧ FreshA w.heap.size B := by
  obtain ⟨⟨ru, rn, re⟩, hres⟩ : ∃ r, unpackL T s at_ = r := ⟨_, rfl⟩
  rw [hres]
  go_enter Try.func36, Try.ntmps36
  go_wp2_with (refine tab_box rfl rfl rfl hT ?_; intro HT)
  have hg1 : Grew w (w.alloc (.cells (nums .u32 T).toArray 24)) := (Grew.rf w).al _
  obtain ⟨w1, hw1⟩ : ∃ w1, w.alloc (.cells (nums .u32 T).toArray 24) = w1 := ⟨_, rfl⟩
  rw [hw1] at HT hg1 ⊢
  obtain ⟨g, hgs⟩ : ∃ g, w.heap.size = g := ⟨_, rfl⟩
  rw [hgs] at HT ⊢
  clear hw1
  have hr1 := hr.keep hg1
  have HTT := Lib.hid HT
  have HB := Lib.hid hb
  clear HT hb hr
  go_loopw [2, 6, 9] (fun a v f wr => ∃ (a' : Int) (full : Bool) (fuel : Nat) (acc : List Int), a = .int .i64 a' ∧ f = .bool full ∧ -9223372036854775808 ≤ a' ∧ a' ≤ 9223372036854775807 ∧ Own wr w1.heap.size v acc ∧ Grew w1 wr ∧ unpackF T s fuel a' full acc = (ru, rn, re) ∧ ((fuel = n + 1 ∧ acc = []) ∨ (0 ≤ a' ∧ a' ≤ n ∧ (n : Int) + 1 - a' ≤ fuel ∧ (acc.length : Int) ≤ a')))
    (fun a _ _ _ => n + 1 - (intOf a).toNat)
  case atStart => exact ⟨at_, true, n + 1, [], rfl, rfl, h0, h1, OwnK.nil _ _ _ _, Grew.rf _, by rw [← hres, unpackL, hr1.len], .inl ⟨rfl, rfl⟩⟩
  case round =>
    obtain ⟨a', full, fuel, acc, rfl, rfl, hl0, hl1, hO, hB, hF, hor⟩ := hrel
    obtain ⟨k, rfl⟩ : ∃ k, fuel = k + 1 := ⟨fuel - 1, by omega⟩
    obtain ⟨⟨p, nx, er⟩, hq⟩ : ∃ r, oneP T s a' full = r := ⟨_, rfl⟩
    have hone := fun (u : World) (hg : Grew w1 u) => one_any T hT hW A n c s a' full u (hr1.keep hg) HB.out hnc hc hn hl0 hl1
    rw [unpackF, hq] at hF
    rw [hq] at hone
    simp only at hF hone
    have HONE := Lib.hid hone
    have HT2 := HTT.out.keep hB
    clear hone
    by_cases c1 : er = 0
    · subst c1
      rw [if_neg (by simp)] at hF
      obtain ⟨p0, p1, p2, p3⟩ := oneP_ok HB.out hq
      rw [hr1.len] at p2
      clear hq
      by_cases c2 : p = []
      · rw [if_pos c2] at hF
        cases hF
        subst c2
        have hal : ru.length ≤ n := by
          rcases hor with ⟨_, rfl⟩ | h
          · simp
          · omega
        obtain ⟨A6, c6, rfl, hc6, hc7, hr6⟩ := hO.rd
        have hclip := fun u => clip_any A6 ru.length c6 u hc6 hc7
        go_wp2_with (first | (refine tab_load rfl rfl rfl HT2 ?_) | (go_at_call 42; refine Calls.mono (HONE.out _ hB) ?_; rintro e w2 ⟨B2, m2, d2, rfl, hr2, hm2, hd2, hg2⟩; obtain rfl : m2 = 0 := hr2.len.symm) | (go_at_call 43; refine Calls.mono (hclip _) ?_; rintro e w3 ⟨rfl, rfl⟩))
        go_ret3
        exact ⟨_, _, _, rfl, hr6.keep hg2, by omega, by omega, hg1.tr (hB.tr hg2), (hO.fresh).mono (by have := hg1.size; omega)⟩
      · rw [if_neg c2] at hF
        have hp0 : 0 < p.length := List.length_pos_iff.2 c2
        have hal : acc.length ≤ n := by
          rcases hor with ⟨_, rfl⟩ | h
          · simp
          · omega
        have hal2 : (acc.length : Int) ≤ a' ∧ (n : Int) - a' ≤ k := by
          rcases hor with ⟨h, rfl⟩ | h
          · exact ⟨by simp; omega, by omega⟩
          · omega
        have hdec : (decide ((p.length : Int) = 256)) = decide (p.length = 256) := by
          by_cases h : p.length = 256
          · rw [decide_eq_true h, decide_eq_true (by omega)]
          · rw [decide_eq_false h, decide_eq_false (by omega)]
        have HF := Lib.hid hF
        clear hF
        go_wp2_with (first | (refine tab_load rfl rfl rfl HT2 ?_) | (go_at_call 42; refine Calls.mono (HONE.out _ hB) ?_; rintro e w2 ⟨B2, m2, d2, rfl, hr2, hm2, hd2, hg2⟩; obtain ⟨hml⟩ : PLift (p.length = m2) := ⟨hr2.len⟩; subst hml; have hB2 := hB.tr hg2) | ((with_reducible refine gate_b .append #[.tmp 33, .tmp 34] _ rfl ?_); refine apps rfl rfl rfl rfl (hO.keep hg2) hr2 hB2 hB2.size (by omega) ?_; intro v2 w3 ho3 hg3 hb3))
        go_roundw
        case rel => exact ⟨nx, decide (p.length = 256), k, acc ++ p, rfl, by rw [← hdec]; rfl, by omega, by omega, ho3, hg3, HF.out, .inr ⟨by omega, p2, by omega, by rw [List.length_append]; omega⟩⟩
        case measure => simp [intOf]; omega
    · rw [if_pos c1] at hF
      have hc1 : decide (er = 0) = false := decide_eq_false c1
      cases hF
      go_wp2_with (first | (refine tab_load rfl rfl rfl HT2 ?_) | (go_at_call 42; refine Calls.mono (HONE.out _ hB) ?_; rintro e w2 ⟨B2, m2, d2, rfl, hr2, hm2, hd2, hg2⟩))
      go_ret3
      exact ⟨_, _, _, rfl, RdK.nil _ _ _, by omega, by omega, hg1.tr (hB.tr hg2), FreshA.none _⟩
end Go.Proofs.Ytflnopaheanpdaa
