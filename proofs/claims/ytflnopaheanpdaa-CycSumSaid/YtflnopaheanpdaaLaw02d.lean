import Derived.Test.YtflnopaheanpdaaLaw02
set_option linter.unusedVariables false
set_option linter.unusedSimpArgs false
namespace Go.Proofs.Ytflnopaheanpdaa
open Go.RowKit

def Po.parts {B0 : Nat} (vs : List Value) : Po B0 := ⟨fun v u => ∃ g, v = .slice (some ⟨g, 0, none⟩) vs.length vs.length ∧ B0 ≤ g ∧ u.heap[g]? = some (.cells vs.toArray 28 (0, 0)), true, fun v u u' row ⟨g, h1, h2, h3⟩ hg hr => by
  refine ⟨g, h1, h2, ?_⟩
  rw [hg.block g (Array.getElem?_eq_some_iff.1 h3).1 (fun e => by
    refine (hr g e.symm).2 rfl ?_
    rw [h1]; rfl)]
  exact h3⟩
theorem parts_new {u : World} {B0 : Nat} (vs : List Value) (hB : B0 ≤ u.heap.size) {cs : Array Value} {n : Nat} (hc : cs = vs.toArray) (hn : vs.length = n) {row : Option Nat} :
    (Po.parts (B0 := B0) vs).p (.slice (some ⟨u.heap.size, 0, none⟩) n n) (u.alloc (.cells cs 28)) ∧ (true = true → ∀ b, (Value.slice (some ⟨u.heap.size, 0, none⟩) n n).ownBlock = some b → (row = some b ∨ u.heap.size ≤ b) ∧ b < (u.alloc (.cells cs 28)).heap.size) := by
  subst hc; subst hn
  refine ⟨⟨_, rfl, hB, heap_alloc_new u _⟩, fun _ b hb => ?_⟩
  simp only [Value.ownBlock, Option.some.injEq] at hb
  subst hb
  exact ⟨.inr (Nat.le_refl _), by simp⟩
theorem parts_of {u : World} {B0 : Nat} {v : Value} {vs : List Value} {xss : List (List Int)} {n : Nat} (h : (Po.parts (B0 := B0) vs).p v u) (k : PartsAt u vs xss) (hn : vs.length = n) : ∃ A, v = .slice A n n ∧ Parts u A n xss := by
  obtain ⟨g, rfl, _, hh⟩ := h
  subst hn
  obtain ⟨h3, h4, h5⟩ := k.get
  refine ⟨_, rfl, h3.symm, h4, fun j hj => ?_⟩
  obtain ⟨B, m, c, h1, h2, h6, _⟩ := h5 j _ (List.getElem?_eq_getElem hj)
  exact ⟨_, 0, B, m, c, rfl, by simp [World.cell?, hh, hj, h1], h2, h6⟩
theorem OwnK.low {e : TypeId} {k : IntKind} {w w' : World} {base : Nat} {v : Value} {xs : List Int} (h : OwnK e k w base v xs) (hb : ∀ j, base ≤ j → w'.heap[j]? = w.heap[j]?) : OwnK e k w' base v xs := by
  refine ⟨h.own.1, ?_⟩
  rcases h.own.2 with h2 | ⟨g, cap, cur, hv, hg, hh, r⟩
  · exact .inl h2
  · exact .inr ⟨g, cap, cur, hv, hg, by rw [hb g hg]; exact hh, r⟩
theorem OwnK.rdA {e : TypeId} {k : IntKind} {w : World} {base : Nat} {A : Option Addr} {n c : Nat} {xs : List Int} (h : OwnK e k w base (.slice A n c) xs) : RdK k w A n xs := by
  obtain ⟨A1, c1, he, _, _, hr⟩ := h.rd
  simp only [Value.slice.injEq] at he
  obtain ⟨rfl, rfl, rfl⟩ := he
  exact hr

set_option maxRecDepth 100000 in
set_option maxHeartbeats 1600000 in
theorem cycSum_walk (A0 : Option Addr) (n0 c0 : Nat) (as0 : List Int) (A1 : Option Addr) (n1 c1 : Nat) (bs0 : List Int) (at0 nn0 : Int) (w : World) (hr0 : Rd w A0 n0 as0) (hb0 : Byt as0) (hnc0 : n0 ≤ c0) (hc0 : c0 ≤ 9223372036854775807)
    (hr1 : Rd w A1 n1 bs0) (hb1 : Byt bs0) (hnc1 : n1 ≤ c1) (hc1 : c1 ≤ 9223372036854775807) (ha0 : 0 ≤ at0) (ha1 : at0 < 4294967296) (hn0 : 0 ≤ nn0) (hn1 : nn0 < 4294967296) :
    Calls Try.prog 4 #[.slice A0 n0 c0, .slice A1 n1 c1, .int .u32 at0, .int .u32 nn0] w fun e w' => e = .returned (.bool true) ∧ Grew w w' := by
  obtain ⟨nn, rfl⟩ := Int.eq_ofNat_of_zero_le hn0
  obtain ⟨j, hj⟩ := Int.eq_ofNat_of_zero_le (show 0 ≤ at0 % 256 by omega)
  have hj256 : j < 256 := by omega
  have hnn : nn < 4294967296 := by omega
  have ra := hr0.take (i := min n0 200) (by omega)
  have rb := hr1.take (i := min n1 200) (by omega)
  have ba : Byt (as0.take (min n0 200)) := hb0.take _
  have bb : Byt (bs0.take (min n1 200)) := hb1.take _
  have hs0 := fun w1 (hg : Grew w w1) => short_cut2 A0 n0 c0 w1 as0 (hr0.keep hg) hnc0 hc0
  have hs1 := fun w1 (hg : Grew w w1) => short_cut2 A1 n1 c1 w1 bs0 (hr1.keep hg) hnc1 hc1
  have HS0 := Lib.hid hs0
  have HS1 := Lib.hid hs1
  clear hs0 hs1
  have hk0 : min n0 200 ≤ 200 := by omega
  have hk1 : min n1 200 ≤ 200 := by omega
  generalize min n0 200 = k0 at *
  generalize min n1 200 = k1 at *
  generalize as0.take k0 = xs at *
  generalize bs0.take k1 = ys at *
  have hla := ra.len
  have hlb := rb.len
  have HLA := Lib.hid hla
  have HLB := Lib.hid hlb
  clear hla hlb
  have hwt : Wrd (cTab.set j (nn : Int)) := cTab_wrd.set j hn0 hn1
  have hlt : (cTab.set j (nn : Int)).length = 256 := by rw [List.length_set]; exact cTab_len
  obtain ⟨T, hT⟩ : ∃ T, cTab.set j (nn : Int) = T := ⟨_, rfl⟩
  rw [hT] at hwt hlt
  obtain ⟨R, hR⟩ : ∃ R, cSum cTab (xs ++ ys) = R := ⟨_, rfl⟩
  obtain ⟨R2, hR2⟩ : ∃ R, cSum T (xs ++ ys) = R := ⟨_, rfl⟩
  have hsum := fun (u : World) A c (hP : Parts u A 2 [xs, ys]) => sum_any cTab cTab_len cTab_wrd A 2 c _ u hP (by decide)
  rw [show [xs, ys].flatten = xs ++ ys by simp, hR] at hsum
  have hsumT := fun (u : World) A c (hP : Parts u A 2 [xs, ys]) => sum_any T hlt hwt A 2 c _ u hP (by decide)
  rw [show [xs, ys].flatten = xs ++ ys by simp, hR2] at hsumT
  have hrs := fun (u : World) A n c (hr : Rd u A n (xs ++ ys)) (hn : n ≤ 9223372036854775807) => rsum_any A n c _ u hr (ba.app bb) hn
  rw [← sum_ref (ba.app bb), hR] at hrs
  have hby := fun (u : World) A n c (hr : Rd u A n (xs ++ ys)) (hn : n ≤ 9223372036854775807) => by_any T hlt hwt A n c _ u hr (ba.app bb) hn
  rw [← sum_by hwt, hR2] at hby
  have HSUM := Lib.hid hsum
  have HSUMT := Lib.hid hsumT
  have HRS := Lib.hid hrs
  have HBY := Lib.hid hby
  have HT0 := Lib.hid hT
  have HWT := Lib.hid hwt
  have HLT := Lib.hid hlt
  clear hsum hsumT hrs hby hR hR2 hT hwt hlt
  go_enter Try.func4, Try.ntmps4
  go_wp2_with (first | (go_at_call 16; refine Calls.mono (table_any _) ?_; rintro e w1 ⟨rfl, hg1⟩) | (refine tab_alloc rfl rfl ?_; intro HT) | (refine tab_storeA rfl rfl rfl rfl HT cTab_len (hg1.al (.cells (nums .u32 zT).toArray 24)) hg1.size ?_; intro wr HF hg2))
  have hg2 : Grew w wr := hg2
  have hgz := hg1.size
  obtain ⟨g, hgs⟩ : ∃ g, w1.heap.size = g := ⟨_, rfl⟩
  rw [hgs] at HF hgz ⊢
  clear hgs HT
  refine Calls.mono (HS0.out _ (hg2.al _)) ?_
  rintro e w' ⟨rfl, rfl⟩
  go_wp2_with (at_builtin; refine apps rfl rfl rfl rfl (own_lit0 wr) (ra.keep (hg2.al (.cells #[] 5))) ((Grew.rf wr).al (.cells #[] 5)) (by rw [World.size_alloc]; omega) (by rw [List.length_nil]; omega) ?_; intro v3 w3 ho3 hg3 hb3)
  rw [List.nil_append] at ho3
  refine Calls.mono (HS1.out _ (hg2.tr hg3)) ?_
  rintro e w' ⟨rfl, rfl⟩
  go_wp2_with (at_builtin; refine apps rfl rfl rfl rfl ho3 (rb.keep (hg2.tr hg3)) hg3 hb3 (by rw [HLA.out]; omega) ?_; intro v4 w4 ho4 hg4 hb4)
  obtain ⟨AX, cX, rfl, hcX, hcX2, hrX⟩ := ho4.rd' (n := k0 + k1) (by rw [List.length_append, HLA.out, HLB.out])
  have HF4 := HF.keep hg4
  have hG := hg2.tr hg4
  refine region_ow (w0 := w4) [[], [], [(1, 20)], [], [(3, 22)], [(2, 21), (4, 23)], [(0, 19), (5, 24)], [], [(7, 26)], [(6, 25), (8, 27)], [(9, 28)], [(10, 29)], [(10, 29), (11, 30)], [(10, 29)], [(10, 29), (12, 31), (13, 32)], [(10, 29), (14, 33)], [(10, 29)], [(10, 29)], [(10, 29), (17, 36)], [(10, 29), (16, 35), (18, 37)], [(10, 29)], [(10, 29), (20, 39)], [(10, 29), (19, 38), (21, 40)], [(10, 29), (22, 41)], [(10, 29), (15, 34), (23, 42)], [(10, 29), (24, 43)]] [(0, 19), (1, 20), (2, 21), (3, 22), (4, 23), (5, 24), (6, 25), (7, 26), (8, 27), (9, 28), (10, 29), (11, 30), (12, 31), (13, 32), (14, 33), (15, 34), (16, 35), (17, 36), (18, 37), (19, 38), (20, 39), (21, 40), (22, 41), (23, 42), (24, 43), (25, 44)] [(19, 16), (22, 19)] [none, none, none, none, none, none, none, none, none, none, none, none, none, none, none, none, none, none, none, some 35, none, none, some 38, none, none, none] [5, 14, 16, 19, 21, 22] (fun
    | 0 => .eqv (tabV cTab) | 1 => .eqv (.slice A0 n0 c0) | 2 => .eqv (.slice A0 k0 c0) | 3 => .eqv (.slice A1 n1 c1) | 4 => .eqv (.slice A1 k1 c1) | 5 => .parts [.slice A0 k0 c0, .slice A1 k1 c1] | 6 => .eqv (.int .u32 R) | 7 => .eqv (.slice AX (k0 + k1) cX) | 8 => .eqv (.int .u32 R) | 9 => .eqv (.bool false) | 10 => .eqv (.bool false) | 11 => .eqv (.slice A0 n0 c0) | 12 => .eqv (.slice A0 k0 c0) | 13 => .eqv (.int .u32 nn) | 14 => .ow (xs ++ fourB nn) | 15 => .eqv (.string (strOfNums (xs ++ fourB nn))) | 16 => .ow [] | 17 => .eqv (.slice A0 n0 c0) | 18 => .eqv (.slice A0 k0 c0) | 19 => .ow ([] ++ xs) | 20 => .eqv (.int .u32 nn) | 21 => .ow (fourB nn) | 22 => .ow (([] ++ xs) ++ fourB nn) | 23 => .eqv (.string (strOfNums (xs ++ fourB nn))) | 24 => .eqv (.bool false) | 25 => .eqv (.bool false) | _ => .any) (by kernel_rfl) (by kernel_rfl) (by kernel_rfl) (Below.refl _ _) ?_ ?_
  · refine ⟨fun u hu => ?_, fun u hu => ?_, fun u hu => ?_, fun u hu => ?_, fun u hu => ?_, fun u hu => ?_, fun u hu => ?_, fun u hu => ?_, fun u hu => ?_, fun u hu => ?_, fun u hu => ?_, fun u hu => ?_, fun u hu => ?_, fun u hu => ?_, fun u hu => ?_, fun u hu => ?_, fun u hu => ?_, fun u hu => ?_, fun u hu => ?_, fun u hu => ?_, fun u hu => ?_, fun u hu => ?_, fun u hu => ?_, fun u hu => ?_, fun u hu => ?_, fun u hu => ?_, trivial⟩
    · refine StepGoal.nil ?_
      intro hrow
      go_wp2_with (refine tab_load2 (.inr rfl) rfl rfl (HF4.keep hu) ?_)
      exact ⟨rfl, rfl, gb_rf _, rfl, fun h => absurd h (by decide)⟩
    · refine StepGoal.nil ?_
      intro hrow
      go_wp2
      exact ⟨rfl, rfl, gb_rf _, rfl, fun h => absurd h (by decide)⟩
    · rintro _ rfl
      refine StepGoal.nil ?_
      intro hrow
      simp only [Act.put, List.setIfInBounds_toArray, List.set_cons_zero, List.set_cons_succ]
      go_wp2_with (go_at_call 18; refine Calls.mono (HS0.out _ (hG.tr hu)) ?_; rintro e w' ⟨rfl, rfl⟩)
      exact ⟨rfl, rfl, gb_rf _, rfl, fun h => absurd h (by decide)⟩
    · refine StepGoal.nil ?_
      intro hrow
      go_wp2
      exact ⟨rfl, rfl, gb_rf _, rfl, fun h => absurd h (by decide)⟩
    · rintro _ rfl
      refine StepGoal.nil ?_
      intro hrow
      simp only [Act.put, List.setIfInBounds_toArray, List.set_cons_zero, List.set_cons_succ]
      go_wp2_with (go_at_call 18; refine Calls.mono (HS1.out _ (hG.tr hu)) ?_; rintro e w' ⟨rfl, rfl⟩)
      exact ⟨rfl, rfl, gb_rf _, rfl, fun h => absurd h (by decide)⟩
    · rintro _ rfl _ rfl
      refine StepGoal.nil ?_
      intro hrow
      simp only [Act.put, List.setIfInBounds_toArray, List.set_cons_zero, List.set_cons_succ]
      go_wp2
      exact ⟨rfl, rfl, ((Grew.rf u).al _).gb _, parts_new [.slice A0 k0 c0, .slice A1 k1 c1] hu.size rfl rfl⟩
    · rintro _ rfl v24 h24
      obtain ⟨A7, rfl, hp7⟩ := parts_of h24 (PartsAt.cons (ra.keep (hG.tr hu)) (by omega) ba (PartsAt.cons (rb.keep (hG.tr hu)) (by omega) bb (PartsAt.nil _))) rfl
      refine StepGoal.nil ?_
      intro hrow
      simp only [Act.put, List.setIfInBounds_toArray, List.set_cons_zero, List.set_cons_succ]
      go_wp2_with (go_at_call 19; refine Calls.mono (HSUM.out _ _ _ hp7) ?_; rintro e w' ⟨rfl, hg⟩)
      exact ⟨rfl, rfl, hg.gb _, rfl, fun h => absurd h (by decide)⟩
    · refine StepGoal.nil ?_
      intro hrow
      go_wp2
      exact ⟨rfl, rfl, gb_rf _, rfl, fun h => absurd h (by decide)⟩
    · rintro _ rfl
      refine StepGoal.nil ?_
      intro hrow
      simp only [Act.put, List.setIfInBounds_toArray, List.set_cons_zero, List.set_cons_succ]
      go_wp2_with (go_at_call 20; refine Calls.mono (HRS.out _ _ _ _ (hrX.keep hu) (by omega)) ?_; rintro e w' ⟨rfl, rfl⟩)
      exact ⟨rfl, rfl, gb_rf _, rfl, fun h => absurd h (by decide)⟩
    · rintro _ rfl _ rfl
      refine StepGoal.nil ?_
      intro hrow
      simp only [Act.put, List.setIfInBounds_toArray, List.set_cons_zero, List.set_cons_succ]
      go_wp2
      exact ⟨rfl, rfl, gb_rf _, rfl, fun h => absurd h (by decide)⟩
    · rintro _ rfl
      refine StepGoal.nil ?_
      intro hrow
      simp only [Act.put, List.setIfInBounds_toArray, List.set_cons_zero, List.set_cons_succ]
      go_wp2
      exact ⟨rfl, rfl, gb_rf _, rfl, fun h => absurd h (by decide)⟩
    · rintro _ rfl
      refine StepGoal.nil ?_
      intro hrow
      simp only [Act.put, List.setIfInBounds_toArray, List.set_cons_zero, List.set_cons_succ]
      go_wp2
      exact ⟨rfl, rfl, gb_rf _, rfl, fun h => absurd h (by decide)⟩
    · rintro _ rfl _ rfl
      refine StepGoal.nil ?_
      intro hrow
      simp only [Act.put, List.setIfInBounds_toArray, List.set_cons_zero, List.set_cons_succ]
      go_wp2_with (go_at_call 18; refine Calls.mono (HS0.out _ (hG.tr hu)) ?_; rintro e w' ⟨rfl, rfl⟩)
      exact ⟨rfl, rfl, gb_rf _, rfl, fun h => absurd h (by decide)⟩
    · rintro _ rfl
      refine StepGoal.nil ?_
      intro hrow
      simp only [Act.put, List.setIfInBounds_toArray, List.set_cons_zero, List.set_cons_succ]
      go_wp2
      exact ⟨rfl, rfl, gb_rf _, rfl, fun h => absurd h (by decide)⟩
    · rintro _ rfl _ rfl _ rfl
      refine StepGoal.nil ?_
      intro hrow
      simp only [Act.put, List.setIfInBounds_toArray, List.set_cons_zero, List.set_cons_succ]
      go_wp2_with (go_at_call 21; refine Calls.mono (cput_any A0 k0 c0 xs nn _ (ra.keep (hG.tr hu)) (by omega) hnn) ?_; rintro e w1 ⟨x, rfl, ho, hg⟩)
      exact ⟨rfl, rfl, hg.gb _, ho.lower hu.size, fun _ => own_fresh ho rfl⟩
    · rintro _ rfl v33 h33
      have hs := OwnK.str h33
      refine StepGoal.nil ?_
      intro hrow
      simp only [Act.put, List.setIfInBounds_toArray, List.set_cons_zero, List.set_cons_succ]
      go_wp2
      exact ⟨rfl, rfl, gb_rf _, rfl, fun h => absurd h (by decide)⟩
    · rintro _ rfl
      refine StepGoal.nil ?_
      intro hrow
      simp only [Act.put, List.setIfInBounds_toArray, List.set_cons_zero, List.set_cons_succ]
      go_wp2
      exact ⟨rfl, rfl, ((Grew.rf u).al _).gb _, (own_lit0 u).lower hu.size, fun _ => own_fresh (own_lit0 u) rfl⟩
    · rintro _ rfl
      refine StepGoal.nil ?_
      intro hrow
      simp only [Act.put, List.setIfInBounds_toArray, List.set_cons_zero, List.set_cons_succ]
      go_wp2
      exact ⟨rfl, rfl, gb_rf _, rfl, fun h => absurd h (by decide)⟩
    · rintro _ rfl _ rfl
      refine StepGoal.nil ?_
      intro hrow
      simp only [Act.put, List.setIfInBounds_toArray, List.set_cons_zero, List.set_cons_succ]
      go_wp2_with (go_at_call 18; refine Calls.mono (HS0.out _ (hG.tr hu)) ?_; rintro e w' ⟨rfl, rfl⟩)
      exact ⟨rfl, rfl, gb_rf _, rfl, fun h => absurd h (by decide)⟩
    · rintro _ rfl v35 h35 _ rfl
      refine StepGoal.nil ?_
      intro hrow
      simp only [Act.put, List.setIfInBounds_toArray, List.set_cons_zero, List.set_cons_succ]
      go_wp2_with (at_builtin; refine apps2 (.inr rfl) rfl rfl rfl h35 (ra.keep (hG.tr hu)) hu.size (by simp; omega) ?_; intro v3 w3 ho3 hg3 hat3)
      exact ⟨rfl, rfl, hg3, ho3, fun _ => hat3⟩
    · rintro _ rfl
      refine StepGoal.nil ?_
      intro hrow
      simp only [Act.put, List.setIfInBounds_toArray, List.set_cons_zero, List.set_cons_succ]
      go_wp2
      exact ⟨rfl, rfl, gb_rf _, rfl, fun h => absurd h (by decide)⟩
    · rintro _ rfl _ rfl
      refine StepGoal.nil ?_
      intro hrow
      simp only [Act.put, List.setIfInBounds_toArray, List.set_cons_zero, List.set_cons_succ]
      go_wp2_with (go_at_call 22; refine Calls.mono (four_any nn _ hnn) ?_; rintro e w1 ⟨x, rfl, ho, hg⟩)
      exact ⟨rfl, rfl, hg.gb _, ho.lower hu.size, fun _ => own_fresh ho rfl⟩
    · rintro _ rfl v38 h38 v40 h40
      obtain ⟨A7, c7, rfl, _, _, hr7⟩ := h40.rd' (n := 4) rfl
      refine StepGoal.nil ?_
      intro hrow
      simp only [Act.put, List.setIfInBounds_toArray, List.set_cons_zero, List.set_cons_succ]
      go_wp2_with (at_builtin; refine apps2 (.inr rfl) rfl rfl rfl h38 hr7 hu.size (by simp; rw [HLA.out]; omega) ?_; intro v3 w3 ho3 hg3 hat3)
      exact ⟨rfl, rfl, hg3, ho3, fun _ => hat3⟩
    · rintro _ rfl v41 h41
      have hs := OwnK.str h41
      refine StepGoal.nil ?_
      intro hrow
      simp only [Act.put, List.setIfInBounds_toArray, List.set_cons_zero, List.set_cons_succ]
      go_wp2
      exact ⟨rfl, rfl, gb_rf _, rfl, fun h => absurd h (by decide)⟩
    · rintro _ rfl _ rfl _ rfl
      refine StepGoal.nil ?_
      intro hrow
      simp only [Act.put, List.setIfInBounds_toArray, List.set_cons_zero, List.set_cons_succ]
      go_wp2
      exact ⟨rfl, rfl, gb_rf _, rfl, fun h => absurd h (by decide)⟩
    · rintro _ rfl _ rfl
      refine StepGoal.nil ?_
      intro hrow
      simp only [Act.put, List.setIfInBounds_toArray, List.set_cons_zero, List.set_cons_succ]
      go_wp2
      exact ⟨rfl, rfl, gb_rf _, rfl, fun h => absurd h (by decide)⟩
  · intro u hu
    rintro _ rfl _ rfl _ rfl _ rfl _ rfl v24 h24 _ rfl _ rfl _ rfl _ rfl _ rfl _ rfl _ rfl _ rfl v33 h33 _ rfl v35 _ _ rfl _ rfl v38 _ _ rfl v40 h40 v41 h41 _ rfl _ rfl _ rfl
    refine StepGoal.nil ?_
    simp only [Act.put, List.setIfInBounds_toArray, List.set_cons_zero, List.set_cons_succ]
    have hT5 := HF4.keep hu
    have hce := hT5.cell hj256
    have hfr := hT5.frozen j
    obtain ⟨old, hold⟩ : ∃ old, Value.int .u32 (cTab.getD j 0) = old := ⟨_, rfl⟩
    rw [hold] at hce
    clear hold
    have hT6 := hT5.store j (nn : Int)
    rw [HT0.out] at hT6
    have hO6 : Own (u.setCell ⟨g, j, none⟩ (.int .u32 (nn : Int))) wr.heap.size (.slice AX (k0 + k1) cX) (xs ++ ys) := (ho4.keep hu).low (fun i hi => Below.heap_setCell _ _ _ _ (by have := HF.lt; show i ≠ g; omega))
    have hrX6 := hO6.rdA
    have hG6 : Grew w (u.setCell ⟨g, j, none⟩ (.int .u32 (nn : Int))) := (hG.tr hu).st hgz _
    have HHU := Lib.hid hu
    have HO4 := Lib.hid ho4
    clear hT5 hO6 hu ho4
    go_wp2_with fail
    refine region_grew [[], [(0, 50)], [(1, 51)], [(1, 51)], [(1, 51), (3, 53)], [(1, 51)], [(1, 51), (5, 55)], [(1, 51), (4, 54), (6, 56)], [(1, 51), (2, 52), (7, 57)], [(1, 51)], [(1, 51)], [(1, 51), (9, 59), (10, 60)], [(1, 51), (8, 58), (11, 61)], [(1, 51), (12, 62)], [(13, 63)]] [(0, 50), (1, 51), (2, 52), (3, 53), (4, 54), (5, 55), (6, 56), (7, 57), (8, 58), (9, 59), (10, 60), (11, 61), (12, 62), (13, 63), (14, 8)] (fun
      | 0 => .eqv (.bool true) | 1 => .eqv (.bool true) | 2 => .eqv (tabV T) | 3 => .eqv (.slice A0 n0 c0) | 4 => .eqv (.slice A0 k0 c0) | 5 => .eqv (.slice A1 n1 c1) | 6 => .eqv (.slice A1 k1 c1) | 7 => .parts 2 [xs, ys] | 8 => .eqv (.int .u32 R2) | 9 => .eqv (tabV T) | 10 => .eqv (.slice AX (k0 + k1) cX) | 11 => .eqv (.int .u32 R2) | 12 => .eqv (.bool true) | 13 => .eqv (.bool true) | 14 => .eqv (.bool true) | _ => .any) (by kernel_rfl) ?_ ?_
    · refine ⟨fun u hu => ?_, fun u hu => ?_, fun u hu => ?_, fun u hu => ?_, fun u hu => ?_, fun u hu => ?_, fun u hu => ?_, fun u hu => ?_, fun u hu => ?_, fun u hu => ?_, fun u hu => ?_, fun u hu => ?_, fun u hu => ?_, fun u hu => ?_, fun u hu => ?_, trivial⟩
      · refine StepGoal.nil ?_
        go_wp2_with (go_at_call 17; refine Calls.mono (awake2_any _) ?_; rintro e w6 ⟨rfl, hg⟩)
        exact ⟨rfl, rfl, hg, rfl⟩
      · rintro _ rfl
        refine StepGoal.nil ?_
        simp only [Act.put, List.setIfInBounds_toArray, List.set_cons_zero, List.set_cons_succ]
        go_wp2
        exact ⟨rfl, rfl, Grew.rf _, rfl⟩
      · rintro _ rfl
        refine StepGoal.nil ?_
        simp only [Act.put, List.setIfInBounds_toArray, List.set_cons_zero, List.set_cons_succ]
        go_wp2_with (refine tab_load2 (.inr rfl) rfl rfl (hT6.keep hu) ?_)
        exact ⟨rfl, rfl, Grew.rf _, rfl⟩
      · rintro _ rfl
        refine StepGoal.nil ?_
        simp only [Act.put, List.setIfInBounds_toArray, List.set_cons_zero, List.set_cons_succ]
        go_wp2
        exact ⟨rfl, rfl, Grew.rf _, rfl⟩
      · rintro _ rfl _ rfl
        refine StepGoal.nil ?_
        simp only [Act.put, List.setIfInBounds_toArray, List.set_cons_zero, List.set_cons_succ]
        go_wp2_with (go_at_call 18; refine Calls.mono (HS0.out _ (hG6.tr hu)) ?_; rintro e w' ⟨rfl, rfl⟩)
        exact ⟨rfl, rfl, Grew.rf _, rfl⟩
      · rintro _ rfl
        refine StepGoal.nil ?_
        simp only [Act.put, List.setIfInBounds_toArray, List.set_cons_zero, List.set_cons_succ]
        go_wp2
        exact ⟨rfl, rfl, Grew.rf _, rfl⟩
      · rintro _ rfl _ rfl
        refine StepGoal.nil ?_
        simp only [Act.put, List.setIfInBounds_toArray, List.set_cons_zero, List.set_cons_succ]
        go_wp2_with (go_at_call 18; refine Calls.mono (HS1.out _ (hG6.tr hu)) ?_; rintro e w' ⟨rfl, rfl⟩)
        exact ⟨rfl, rfl, Grew.rf _, rfl⟩
      · rintro _ rfl _ rfl _ rfl
        refine StepGoal.nil ?_
        simp only [Act.put, List.setIfInBounds_toArray, List.set_cons_zero, List.set_cons_succ]
        go_wp2
        exact ⟨rfl, rfl, (Grew.rf _).al _, _, _, rfl, Parts.lit (vs := [_, _]) (PartsAt.cons (ra.keep (hG6.tr hu)) (by omega) ba (PartsAt.cons (rb.keep (hG6.tr hu)) (by omega) bb (PartsAt.nil _))) rfl rfl rfl⟩
      · rintro _ rfl _ rfl v57 h57
        obtain ⟨A7, c7, rfl, hp7⟩ := h57
        refine StepGoal.nil ?_
        simp only [Act.put, List.setIfInBounds_toArray, List.set_cons_zero, List.set_cons_succ]
        go_wp2_with (go_at_call 19; refine Calls.mono (HSUMT.out _ _ _ hp7) ?_; rintro e w' ⟨rfl, hg⟩)
        exact ⟨rfl, rfl, hg, rfl⟩
      · rintro _ rfl
        refine StepGoal.nil ?_
        simp only [Act.put, List.setIfInBounds_toArray, List.set_cons_zero, List.set_cons_succ]
        go_wp2_with (refine tab_load2 (.inr rfl) rfl rfl (hT6.keep hu) ?_)
        exact ⟨rfl, rfl, Grew.rf _, rfl⟩
      · rintro _ rfl
        refine StepGoal.nil ?_
        simp only [Act.put, List.setIfInBounds_toArray, List.set_cons_zero, List.set_cons_succ]
        go_wp2
        exact ⟨rfl, rfl, Grew.rf _, rfl⟩
      · rintro _ rfl _ rfl _ rfl
        refine StepGoal.nil ?_
        simp only [Act.put, List.setIfInBounds_toArray, List.set_cons_zero, List.set_cons_succ]
        go_wp2_with (go_at_call 23; refine Calls.mono (HBY.out _ _ _ _ (hrX6.keep hu) (by omega)) ?_; rintro e w' ⟨rfl, hg⟩)
        exact ⟨rfl, rfl, hg, rfl⟩
      · rintro _ rfl _ rfl _ rfl
        refine StepGoal.nil ?_
        simp only [Act.put, List.setIfInBounds_toArray, List.set_cons_zero, List.set_cons_succ]
        go_wp2
        exact ⟨rfl, rfl, Grew.rf _, rfl⟩
      · rintro _ rfl _ rfl
        refine StepGoal.nil ?_
        simp only [Act.put, List.setIfInBounds_toArray, List.set_cons_zero, List.set_cons_succ]
        go_wp2
        exact ⟨rfl, rfl, Grew.rf _, rfl⟩
      · rintro _ rfl
        refine StepGoal.nil ?_
        simp only [Act.put, List.setIfInBounds_toArray, List.set_cons_zero, List.set_cons_succ]
        go_wp2
        exact ⟨rfl, rfl, Grew.rf _, rfl⟩
    · intro u hu
      rintro _ rfl _ rfl _ rfl _ rfl _ rfl _ rfl _ rfl v57 h57 _ rfl _ rfl _ rfl _ rfl _ rfl _ rfl _ rfl
      refine StepGoal.nil ?_
      simp only [Act.put, List.setIfInBounds_toArray, List.set_cons_zero, List.set_cons_succ]
      go_wp2
      go_ret
      exact ⟨rfl, hG6.tr hu⟩
end Go.Proofs.Ytflnopaheanpdaa
