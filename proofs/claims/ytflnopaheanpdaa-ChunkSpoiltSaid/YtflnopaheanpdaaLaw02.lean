import Derived.Test.YtflnopaheanpdaaCycS
import Derived.Test.YtflnopaheanpdaaReg3
import Derived.Test.YtflnopaheanpdaaReg4
set_option linter.unusedVariables false
set_option linter.unusedSimpArgs false
namespace Go.Proofs.Ytflnopaheanpdaa
open Go.RowKit

theorem retb {a b : Bool} (h : a = b) : Ending.returned (.bool a) = Ending.returned (.bool b) := by rw [h]
theorem Byt.take {xs : List Int} (h : Byt xs) (k : Nat) : Byt (xs.take k) := fun x hx => h x (List.mem_of_mem_take hx)
theorem Byt.drop {xs : List Int} (h : Byt xs) (k : Nat) : Byt (xs.drop k) := fun x hx => h x (List.mem_of_mem_drop hx)
theorem Byt.app {xs ys : List Int} (h : Byt xs) (k : Byt ys) : Byt (xs ++ ys) := fun x hx => (List.mem_append.1 hx).elim (h x) (k x)

section
variable {ops : Array Oper} {rest : List Oper} {o : Oper} {a : Act} {Q : Exit → Act → World → Prop} {W : World} {g : Nat} {T : List Int}
theorem tab_load2 (hgd : o.guard = none ∨ Region.wanted o (yielded ops a.tmps) = true) {x : Operand} (ho : o.op = .load 24 x) (hx : a.eval x = .pointer (some ⟨g, 0, none⟩)) (hT : TabAt W g T)
    (h : wpList Try.prog ops Q rest (a.put o.dst (tabV T)) W) : wpList Try.prog ops Q (o :: rest) a W := by
  have hw : Region.wanted o (yielded ops a.tmps) = true := by
    rcases hgd with h | h
    · simp [Region.wanted, h]
    · exact h
  refine wpList_step fun K hK => ?_
  rw [if_pos hw]
  exact wp_load_row 24 x ho g hx _ _ _ _ hT.heap Try.underlying24 rfl (by rw [tabSize]; simp [nums_length, hT.len]) (hK _ _ h)
end

/-! ### Slices of slices that are laid in the text -/
def PartAt (w : World) (v : Value) (xs : List Int) : Prop := ∃ B m c, v = .slice B m c ∧ m ≤ 9223372036854775807 ∧ Rd w B m xs ∧ Byt xs
def PartsAt (w : World) : List Value → List (List Int) → Prop
  | [], [] => True
  | v :: vs, xs :: xss => PartAt w v xs ∧ PartsAt w vs xss
  | _, _ => False
theorem PartsAt.nil (w : World) : PartsAt w [] [] := trivial
theorem PartsAt.cons {w : World} {A : Option Addr} {n c : Nat} {vs : List Value} {xs : List Int} {xss : List (List Int)} (h : Rd w A n xs) (hn : n ≤ 9223372036854775807) (hb : Byt xs) (k : PartsAt w vs xss) : PartsAt w (.slice A n c :: vs) (xs :: xss) := ⟨⟨A, n, c, rfl, hn, h, hb⟩, k⟩
theorem PartsAt.get {w : World} : ∀ {vs : List Value} {xss : List (List Int)}, PartsAt w vs xss → vs.length = xss.length ∧ (∀ xs ∈ xss, Byt xs) ∧ ∀ j v, vs[j]? = some v → PartAt w v (xss.getD j [])
  | [], [], _ => ⟨rfl, by simp, by simp⟩
  | [], _ :: _, h => h.elim
  | _ :: _, [], h => h.elim
  | v :: vs, xs :: xss, ⟨h1, h2⟩ => by
    obtain ⟨h3, h4, h5⟩ := PartsAt.get h2
    refine ⟨by simp [h3], fun ys hy => ?_, fun j u hj => ?_⟩
    · rcases List.mem_cons.1 hy with rfl | hy
      · obtain ⟨_, _, _, _, _, _, hb⟩ := h1; exact hb
      · exact h4 _ hy
    · cases j with
      | zero => simp only [List.getElem?_cons_zero, Option.some.injEq] at hj; subst hj; exact h1
      | succ j => simpa using h5 j u (by simpa using hj)
theorem Parts.lit {w : World} {vs : List Value} {cs : Array Value} {t : TypeId} {xss : List (List Int)} {n : Nat} (h : PartsAt w vs xss) (hc : cs = vs.toArray) (hn : vs.length = n) {g : Nat} (hg : w.heap.size = g) : Parts (w.alloc (.cells cs t)) (some ⟨g, 0, none⟩) n xss := by
  subst hg; subst hc; subst hn
  obtain ⟨h3, h4, h5⟩ := h.get
  refine ⟨h3.symm, h4, fun j hj => ?_⟩
  obtain ⟨B, m, c, h1, h2, h6, _⟩ := h5 j _ (List.getElem?_eq_getElem hj)
  exact ⟨_, 0, B, m, c, rfl, by rw [Nat.zero_add, World.cell?_alloc_new]; simp [hj, h1], h2, h6.al _⟩
theorem Parts.none (w : World) (A : Option Addr) : Parts w A 0 [] := ⟨rfl, by simp, fun j hj => absurd hj (by omega)⟩
theorem Parts.keepC {w w' : World} {A : Option Addr} {n : Nat} {xss : List (List Int)} (h : Parts w A n xss) (hg : ∀ a v, w.cell? a = some v → w'.cell? a = some v) : Parts w' A n xss :=
  ⟨h.len, h.byt, fun j hj => by
    obtain ⟨b, o, B, m, c, h1, h2, h3, h4⟩ := h.cells j hj
    exact ⟨b, o, B, m, c, h1, hg _ _ h2, h3, h4.keepC hg⟩⟩
def Pm.parts {N : Nat} (n : Nat) (xss : List (List Int)) : Pm N := ⟨fun v u => ∃ A c, v = .slice A n c ∧ Parts u A n xss, fun _ _ _ ⟨A, c, h1, h2⟩ hg => ⟨A, c, h1, h2.keepC hg.cell⟩⟩
def Pd.parts (n : Nat) (xss : List (List Int)) : Pd := ⟨fun v u => ∃ A c, v = .slice A n c ∧ Parts u A n xss, fun _ _ _ ⟨A, c, h1, h2⟩ hg => ⟨A, c, h1, h2.keep hg⟩⟩

theorem short_cut2 (A : Option Addr) (n c : Nat) (w : World) (bs : List Int) (hr : Rd w A n bs) (hnc : n ≤ c) (hc : c ≤ 9223372036854775807) :
    Calls Try.prog 18 #[.slice A n c] w fun e w' => e = .returned (.slice A (min n 200) c) ∧ w = w' := by
  by_cases h : 200 < n
  · have hcut := cut_hi (kh := .i64) A n c 200 (by omega)
    have e : min n 200 = 200 := by omega
    rw [e]
    go_enter Try.func18, Try.ntmps18
    go_wp2
    go_ret
    exact ⟨rfl, rfl⟩
  · have e : min n 200 = n := by omega
    rw [e]
    go_enter Try.func18, Try.ntmps18
    go_wp2
    go_ret
    exact ⟨rfl, rfl⟩

theorem sum_ref {xs : List Int} (hb : Byt xs) : cSum cTab xs = 4294967295 - crcF 4294967295 xs := by
  unfold cSum
  rw [sum_crc _ hb, xor_all (crc_lt hb (by decide))]
theorem sum_by {T : List Int} (hW : Wrd T) (xs : List Int) : cSum T xs = 4294967295 - sumF T 4294967295 xs := by
  unfold cSum
  rw [xor_all (sumF_lt hW xs _ (by decide))]
theorem crc_digits : cSum cTab [49, 50, 51, 52, 53, 54, 55, 56, 57] = 3421780262 := by
  rw [sum_ref (byt_of (by decide))]
  simp only [crcF, c8_eq]
  decide +kernel

set_option maxRecDepth 100000 in
set_option maxHeartbeats 1600000 in
theorem awake2_any (w : World) : Calls Try.prog 17 #[] w fun e w' => e = .returned (.bool true) ∧ Grew w w' := by
  have hsum := fun (u : World) A c (hP : Parts u A 2 [[49, 50, 51, 52], [53, 54, 55, 56, 57]]) => sum_any cTab cTab_len cTab_wrd A 2 c _ u hP (by decide)
  rw [show [[49, 50, 51, 52], [53, 54, 55, 56, 57]].flatten = [49, 50, 51, 52, 53, 54, 55, 56, (57 : Int)] from rfl, crc_digits] at hsum
  have hput := fun (u : World) (hr : Rd u (some ⟨u.heap.size, 0, none⟩) 1 [9]) => cput_any (some ⟨u.heap.size, 0, none⟩) 1 1 [9] 16909060 u hr (by decide) (by decide)
  have hc1 : cTab.getD 1 0 = 1996959894 := by rw [cTab_get (by decide), c8_eq]; decide +kernel
  have hc2 : cTab.getD 255 0 = 755167117 := by rw [cTab_get (by decide), c8_eq]; decide +kernel
  have HSUM := Lib.hid hsum
  clear hsum
  go_enter Try.func17, Try.ntmps17
  go_wp2_with (first | (go_at_call 16; refine Calls.mono (table_any _) ?_; rintro e w1 ⟨rfl, hg1⟩) | (refine tab_alloc rfl rfl ?_; intro HT) | (refine tab_store rfl rfl rfl rfl HT cTab_len ?_; intro HF))
  have hg2 : Grew w ((w1.alloc (.cells (nums .u32 zT).toArray 24)).setRow w1.heap.size (nums .u32 cTab).toArray) := below_setRow (hg1.al _) hg1.size _
  obtain ⟨wr, hw2⟩ : ∃ wr, (w1.alloc (.cells (nums .u32 zT).toArray 24)).setRow w1.heap.size (nums .u32 cTab).toArray = wr := ⟨_, rfl⟩
  rw [hw2] at hg2 HF ⊢
  obtain ⟨g, hgs⟩ : ∃ g, w1.heap.size = g := ⟨_, rfl⟩
  rw [hgs] at HF ⊢
  clear hw2 hgs HT
  refine region_gm [[], [(0, 3)], [(1, 4)], [(2, 5)], [(3, 6)], [(3, 6), (4, 7)], [(3, 6), (5, 8)], [(3, 6), (6, 9)], [(7, 10)], [(8, 11)], [(8, 11)], [(8, 11), (10, 13)], [(8, 11)], [(8, 11), (12, 15)], [(8, 11), (11, 14), (13, 16)], [(8, 11), (9, 12), (14, 17)], [(8, 11), (15, 18)], [(8, 11), (16, 19)], [(17, 20)], [(18, 21)], [(18, 21), (19, 22)], [(18, 21), (20, 23)], [(18, 21)], [(18, 21), (22, 25)], [(18, 21), (21, 24), (23, 26)], [(18, 21), (24, 27)], [(25, 28)]] [(0, 3), (1, 4), (2, 5), (3, 6), (4, 7), (5, 8), (6, 9), (7, 10), (8, 11), (9, 12), (10, 13), (11, 14), (12, 15), (13, 16), (14, 17), (15, 18), (16, 19), (17, 20), (18, 21), (19, 22), (20, 23), (21, 24), (22, 25), (23, 26), (24, 27), (25, 28), (26, 0)] (fun
    | 0 => .eqv (.pointer (some ⟨g, 1, none⟩)) | 1 => .eqv (.int .u32 1996959894) | 2 => .eqv (.bool true) | 3 => .eqv (.bool true) | 4 => .eqv (.pointer (some ⟨g, 255, none⟩)) | 5 => .eqv (.int .u32 755167117) | 6 => .eqv (.bool true) | 7 => .eqv (.bool true) | 8 => .eqv (.bool true) | 9 => .eqv (tabV cTab) | 10 => .lit [49, 50, 51, 52] | 11 => .lit [49, 50, 51, 52] | 12 => .lit [53, 54, 55, 56, 57] | 13 => .lit [53, 54, 55, 56, 57] | 14 => .parts 2 [[49, 50, 51, 52], [53, 54, 55, 56, 57]] | 15 => .eqv (.int .u32 3421780262) | 16 => .eqv (.bool true) | 17 => .eqv (.bool true) | 18 => .eqv (.bool true) | 19 => .rd [9] | 20 => .rd [9, 4, 3, 2, 1] | 21 => .eqv (.string (strOfNums [9, 4, 3, 2, 1])) | 22 => .rd [9, 4, 3, 2, 1] | 23 => .eqv (.string (strOfNums [9, 4, 3, 2, 1])) | 24 => .eqv (.bool true) | 25 => .eqv (.bool true) | 26 => .eqv (.bool true) | _ => .any) (by kernel_rfl) ?_ ?_
  · refine ⟨fun u hu => ?_, fun u hu => ?_, fun u hu => ?_, fun u hu => ?_, fun u hu => ?_, fun u hu => ?_, fun u hu => ?_, fun u hu => ?_, fun u hu => ?_, fun u hu => ?_, fun u hu => ?_, fun u hu => ?_, fun u hu => ?_, fun u hu => ?_, fun u hu => ?_, fun u hu => ?_, fun u hu => ?_, fun u hu => ?_, fun u hu => ?_, fun u hu => ?_, fun u hu => ?_, fun u hu => ?_, fun u hu => ?_, fun u hu => ?_, fun u hu => ?_, fun u hu => ?_, fun u hu => ?_, trivial⟩
    · refine StepGoal.nil ?_
      go_wp2
      exact ⟨rfl, rfl, Gm.rf _ _, rfl⟩
    · rintro _ rfl
      have hce := (HF.keep hu).cell (j := 1) (by decide) ; rw [hc1] at hce
      refine StepGoal.nil ?_
      simp only [Act.put, List.setIfInBounds_toArray, List.set_cons_zero, List.set_cons_succ]
      go_wp2
      exact ⟨rfl, rfl, Gm.rf _ _, rfl⟩
    · rintro _ rfl
      refine StepGoal.nil ?_
      simp only [Act.put, List.setIfInBounds_toArray, List.set_cons_zero, List.set_cons_succ]
      go_wp2
      exact ⟨rfl, rfl, Gm.rf _ _, rfl⟩
    · rintro _ rfl
      refine StepGoal.nil ?_
      simp only [Act.put, List.setIfInBounds_toArray, List.set_cons_zero, List.set_cons_succ]
      go_wp2
      exact ⟨rfl, rfl, Gm.rf _ _, rfl⟩
    · rintro _ rfl
      refine StepGoal.nil ?_
      simp only [Act.put, List.setIfInBounds_toArray, List.set_cons_zero, List.set_cons_succ]
      go_wp2
      exact ⟨rfl, rfl, Gm.rf _ _, rfl⟩
    · rintro _ rfl _ rfl
      have hce := (HF.keep hu).cell (j := 255) (by decide) ; rw [hc2] at hce
      refine StepGoal.nil ?_
      simp only [Act.put, List.setIfInBounds_toArray, List.set_cons_zero, List.set_cons_succ]
      go_wp2
      exact ⟨rfl, rfl, Gm.rf _ _, rfl⟩
    · rintro _ rfl _ rfl
      refine StepGoal.nil ?_
      simp only [Act.put, List.setIfInBounds_toArray, List.set_cons_zero, List.set_cons_succ]
      go_wp2
      exact ⟨rfl, rfl, Gm.rf _ _, rfl⟩
    · rintro _ rfl _ rfl
      refine StepGoal.nil ?_
      simp only [Act.put, List.setIfInBounds_toArray, List.set_cons_zero, List.set_cons_succ]
      go_wp2
      exact ⟨rfl, rfl, Gm.rf _ _, rfl⟩
    · rintro _ rfl
      refine StepGoal.nil ?_
      simp only [Act.put, List.setIfInBounds_toArray, List.set_cons_zero, List.set_cons_succ]
      go_wp2
      exact ⟨rfl, rfl, Gm.rf _ _, rfl⟩
    · rintro _ rfl
      refine StepGoal.nil ?_
      simp only [Act.put, List.setIfInBounds_toArray, List.set_cons_zero, List.set_cons_succ]
      go_wp2_with (refine tab_load2 (.inr rfl) rfl rfl (HF.keep hu) ?_)
      exact ⟨rfl, rfl, Gm.rf _ _, rfl⟩
    · rintro _ rfl
      refine StepGoal.nil ?_
      simp only [Act.put, List.setIfInBounds_toArray, List.set_cons_zero, List.set_cons_succ]
      go_wp2
      exact ⟨rfl, rfl, Gm.of ((Grew.rf _).al _) hu.size, lit_new [49, 50, 51, 52] rfl rfl rfl hu.size⟩
    · rintro _ rfl v13 h13
      obtain ⟨u', hk, hgm, h14⟩ := lit_conv h13
      refine StepGoal.nil ?_
      simp only [Act.put, List.setIfInBounds_toArray, List.set_cons_zero, List.set_cons_succ]
      go_wp2
      exact ⟨rfl, rfl, hgm, h14⟩
    · rintro _ rfl
      refine StepGoal.nil ?_
      simp only [Act.put, List.setIfInBounds_toArray, List.set_cons_zero, List.set_cons_succ]
      go_wp2
      exact ⟨rfl, rfl, Gm.of ((Grew.rf _).al _) hu.size, lit_new [53, 54, 55, 56, 57] rfl rfl rfl hu.size⟩
    · rintro _ rfl v15 h15
      obtain ⟨u', hk, hgm, h16⟩ := lit_conv h15
      refine StepGoal.nil ?_
      simp only [Act.put, List.setIfInBounds_toArray, List.set_cons_zero, List.set_cons_succ]
      go_wp2
      exact ⟨rfl, rfl, hgm, h16⟩
    · rintro _ rfl v14 h14 v16 h16
      obtain ⟨A7, n7, c7, rfl, hn7, hc7, hr7⟩ := lit_rd h14 (by decide) ; obtain ⟨A8, n8, c8, rfl, hn8, hc8, hr8⟩ := lit_rd h16 (by decide)
      refine StepGoal.nil ?_
      simp only [Act.put, List.setIfInBounds_toArray, List.set_cons_zero, List.set_cons_succ]
      go_wp2
      exact ⟨rfl, rfl, Gm.of ((Grew.rf _).al _) hu.size, _, _, rfl, Parts.lit (vs := [_, _]) (PartsAt.cons hr7 (by omega) (byt_of (by decide)) (PartsAt.cons hr8 (by omega) (byt_of (by decide)) (PartsAt.nil _))) rfl rfl rfl⟩
    · rintro _ rfl _ rfl v17 h17
      obtain ⟨A7, c7, rfl, hp7⟩ := h17
      refine StepGoal.nil ?_
      simp only [Act.put, List.setIfInBounds_toArray, List.set_cons_zero, List.set_cons_succ]
      go_wp2_with (go_at_call 19; refine Calls.mono (HSUM.out _ _ _ hp7) ?_; rintro e w' ⟨rfl, hg⟩)
      exact ⟨rfl, rfl, Gm.of hg hu.size, rfl⟩
    · rintro _ rfl _ rfl
      refine StepGoal.nil ?_
      simp only [Act.put, List.setIfInBounds_toArray, List.set_cons_zero, List.set_cons_succ]
      go_wp2
      exact ⟨rfl, rfl, Gm.rf _ _, rfl⟩
    · rintro _ rfl _ rfl
      refine StepGoal.nil ?_
      simp only [Act.put, List.setIfInBounds_toArray, List.set_cons_zero, List.set_cons_succ]
      go_wp2
      exact ⟨rfl, rfl, Gm.rf _ _, rfl⟩
    · rintro _ rfl
      refine StepGoal.nil ?_
      simp only [Act.put, List.setIfInBounds_toArray, List.set_cons_zero, List.set_cons_succ]
      go_wp2
      exact ⟨rfl, rfl, Gm.rf _ _, rfl⟩
    · rintro _ rfl
      refine StepGoal.nil ?_
      simp only [Act.put, List.setIfInBounds_toArray, List.set_cons_zero, List.set_cons_succ]
      go_wp2
      exact ⟨rfl, rfl, Gm.of ((Grew.rf _).al _) hu.size, _, _, _, rfl, by decide, by decide, rd_lit' [9] rfl rfl rfl (by decide)⟩
    · rintro _ rfl v22 h22
      obtain ⟨A7, n7, c7, rfl, hn7, hc7, hr7⟩ := h22 ; have hl7 : 1 = n7 := hr7.len ; subst hl7
      refine StepGoal.nil ?_
      simp only [Act.put, List.setIfInBounds_toArray, List.set_cons_zero, List.set_cons_succ]
      go_wp2_with (go_at_call 21; refine Calls.mono (cput_any A7 1 c7 [9] 16909060 _ hr7 (by decide) (by decide)) ?_; rintro e w' ⟨x, rfl, ho, hg⟩)
      obtain ⟨A8, c8, rfl, hn8, hc8, hr8⟩ := ho.rd ; exact ⟨rfl, rfl, Gm.of hg hu.size, _, _, _, rfl, hn8, hc8, hr8⟩
    · rintro _ rfl v23 h23
      obtain ⟨A7, n7, c7, rfl, hn7, hc7, hr7⟩ := h23 ; have hs := RdK.str (c := c7) hr7
      refine StepGoal.nil ?_
      simp only [Act.put, List.setIfInBounds_toArray, List.set_cons_zero, List.set_cons_succ]
      go_wp2
      exact ⟨rfl, rfl, Gm.rf _ _, rfl⟩
    · rintro _ rfl
      refine StepGoal.nil ?_
      simp only [Act.put, List.setIfInBounds_toArray, List.set_cons_zero, List.set_cons_succ]
      go_wp2
      exact ⟨rfl, rfl, Gm.of ((Grew.rf _).al _) hu.size, _, _, _, rfl, by decide, by decide, rd_lit' [9, 4, 3, 2, 1] rfl rfl rfl (by decide)⟩
    · rintro _ rfl v25 h25
      obtain ⟨A7, n7, c7, rfl, hn7, hc7, hr7⟩ := h25 ; have hs := RdK.str (c := c7) hr7
      refine StepGoal.nil ?_
      simp only [Act.put, List.setIfInBounds_toArray, List.set_cons_zero, List.set_cons_succ]
      go_wp2
      exact ⟨rfl, rfl, Gm.rf _ _, rfl⟩
    · rintro _ rfl _ rfl _ rfl
      refine StepGoal.nil ?_
      simp only [Act.put, List.setIfInBounds_toArray, List.set_cons_zero, List.set_cons_succ]
      go_wp2
      exact ⟨rfl, rfl, Gm.rf _ _, rfl⟩
    · rintro _ rfl _ rfl
      refine StepGoal.nil ?_
      simp only [Act.put, List.setIfInBounds_toArray, List.set_cons_zero, List.set_cons_succ]
      go_wp2
      exact ⟨rfl, rfl, Gm.rf _ _, rfl⟩
    · rintro _ rfl
      refine StepGoal.nil ?_
      simp only [Act.put, List.setIfInBounds_toArray, List.set_cons_zero, List.set_cons_succ]
      go_wp2
      exact ⟨rfl, rfl, Gm.rf _ _, rfl⟩
  · intro u hu
    rintro _ rfl _ rfl _ rfl _ rfl _ rfl _ rfl _ rfl _ rfl _ rfl _ rfl v13 h13 v14 h14 v15 h15 v16 h16 v17 h17 _ rfl _ rfl _ rfl _ rfl v22 h22 v23 h23 _ rfl v25 h25 _ rfl _ rfl _ rfl _ rfl
    refine StepGoal.nil ?_
    simp only [Act.put, List.setIfInBounds_toArray, List.set_cons_zero, List.set_cons_succ]
    go_wp2
    go_ret
    exact ⟨rfl, hg2.tr hu⟩
end Go.Proofs.Ytflnopaheanpdaa
