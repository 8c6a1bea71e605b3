/- event.Input of an answer. Printed by wip/mkEv17.py. -/
import Derived.Test.YtbkcpgaicoagfaaEg30
set_option linter.unusedVariables false
set_option linter.unusedSimpArgs false
namespace Go.Proofs.Ytbkcpgaicoagfaa
open Go.RowKit

/-- The input's box while its kind and its response are stored. -/
abbrev inC (se : Int) (c0 c1 c2 c3 : Value) : Array Value := #[c0, .int .i64 se, .string { data := #[] }, .string { data := #[] }, .int .i64 0, .int .i64 0, .int .i64 0, .int .i64 0, .string { data := #[] }, .slice none 0 0, .string { data := #[] }, c1, c2, c3, .int .u64 0]
def GI (ib : Nat) (u u' : World) : Prop := (∃ cs fr, u.heap[ib]? = some (.cells cs 76 fr)) ∧ u.grownBy u' (some ib)
def GA (ib : Nat) (se : Int) (u u' : World) : Prop := GI ib u u' ∧ ∀ c0 c1 c2 c3, u.heap[ib]? = some (.cells (inC se c0 c1 c2 c3) 76) → u'.heap[ib]? = some (.cells (inC se (.int .i64 2) c1 c2 c3) 76)
def GB (ib : Nat) (se : Int) (u u' : World) : Prop := GI ib u u' ∧ ∃ d1 d2 d3, ∀ c0 c1 c2 c3, u.heap[ib]? = some (.cells (inC se c0 c1 c2 c3) 76) → u'.heap[ib]? = some (.cells (inC se c0 d1 d2 d3) 76)
theorem rdH_gi {ib n : Nat} {l : List Hdr} {B : Option Addr} {u u' : World} (h4 : RdH u B n l) (h5 : HdB u B) (hg : GI ib u u') : RdH u' B n l ∧ HdB u' B := by
  obtain ⟨⟨cs, fr, hk⟩, hg⟩ := hg
  have hne := h5.ne hk (by decide)
  exact ⟨h4.by_ hg hne, h5.by_ hg hne⟩
def pxHs (ib : Nat) (se : Int) (n : Nat) (l : List Hdr) (f : Option Addr → Nat → Value) : Px (GA ib se) (GB ib se) where
  p := fun v u => ∃ B d, v = f B d ∧ n ≤ d ∧ d ≤ 9223372036854775807 ∧ RdH u B n l ∧ HdB u B
  s1 := true
  s2 := true
  m0 := fun v u u' ⟨B, d, h1, h2, h3, h4, h5⟩ hg => ⟨B, d, h1, h2, h3, h4.keep hg, h5.keep hg⟩
  m1 := fun _ v u u' ⟨B, d, h1, h2, h3, h4, h5⟩ hg => ⟨B, d, h1, h2, h3, rdH_gi h4 h5 hg.1⟩
  m2 := fun _ v u u' ⟨B, d, h1, h2, h3, h4, h5⟩ hg => ⟨B, d, h1, h2, h3, rdH_gi h4 h5 hg.1⟩
def pxKi (ib : Nat) (se : Int) : Px (GA ib se) (GB ib se) where
  p := fun _ u => ∃ c1 c2 c3, u.heap[ib]? = some (.cells (inC se (.int .i64 2) c1 c2 c3) 76)
  s1 := true
  s2 := true
  m0 := fun v u u' ⟨c1, c2, c3, h⟩ hg => ⟨c1, c2, c3, heap_keep hg h⟩
  m1 := fun _ v u u' ⟨c1, c2, c3, h⟩ hg => ⟨c1, c2, c3, hg.2 _ _ _ _ h⟩
  m2 := fun _ v u u' ⟨c1, c2, c3, h⟩ hg => by
    obtain ⟨d1, d2, d3, hd⟩ := hg.2
    exact ⟨d1, d2, d3, hd _ _ _ _ h⟩
def pxRs (ib : Nat) (se : Int) (n : Nat) (l : List Hdr) (st : Int) (bo : ByteArray) : Px (GA ib se) (GB ib se) where
  p := fun _ u => ∃ c0 B, u.heap[ib]? = some (.cells (inC se c0 (.int .i64 st) (.slice B n n) (.string bo)) 76) ∧ RdH u B n l ∧ HdB u B
  s1 := true
  s2 := false
  m0 := fun v u u' ⟨c0, B, h, h4, h5⟩ hg => ⟨c0, B, heap_keep hg h, h4.keep hg, h5.keep hg⟩
  m1 := fun _ v u u' ⟨c0, B, h, h4, h5⟩ hg => ⟨_, B, hg.2 _ _ _ _ h, rdH_gi h4 h5 hg.1⟩
  m2 := fun h => by cases h

set_option maxRecDepth 100000 in
set_option maxHeartbeats 6400000 in
theorem input_3 (se ti : Int) (me ur : ByteArray) (hs : List Hdr) (bo : ByteArray) (st co : Int) (cr : Bool) (no : ByteArray) (nn : Int) (A : Option Addr) (n c : Nat) (w : World) (hgd : goodE ⟨3, se, ti, me, ur, hs, bo, st, co, cr, no, nn⟩ = true) (hr : RdH w A n hs) (hA : A = none → n = 0 ∧ c = 0) (hn : n ≤ 1000) : InpC ⟨3, se, ti, me, ur, hs, bo, st, co, cr, no, nn⟩ A n c w := by
  have hnn : nn = 0 := by
    have hgk : goodK ⟨3, se, ti, me, ur, hs, bo, st, co, cr, no, nn⟩ = true := by unfold goodE at hgd; exact (Bool.and_eq_true_iff.1 hgd).2
    simp [goodK] at hgk
    simp [hgk]
  subst hnn
  have hin : inE ⟨3, se, ti, me, ur, hs, bo, st, co, cr, no, 0⟩ = (⟨2, se, noT, noT, 0, 0, 0, 0, noT, [], noT, st, hs, bo, 0⟩, true) := by
    unfold inE
    rw [if_neg (by rw [hgd]; simp)]
    simp

  have HIN := Lib.hid hin
  have hg := fun (u : World) (hu : Grew w u) => egood_any ⟨3, se, ti, me, ur, hs, bo, st, co, cr, no, 0⟩ A n c u (hr.keep hu) hA hn
  unfold GoodC at hg
  rw [hgd] at hg
  have HG := Lib.hid hg
  have HCL := Lib.hid (fun (u : World) (hu : Grew w u) => cloneH_any A n c hs u (hr.keep hu) hA hn)
  have HL := Lib.hid (RdV.lenH hr)
  clear hin hg hgd hr hA
  show Calls _ _ _ _ _
  go_enter Try.func36, Try.ntmps36
  go_upto_region 1 with fail
  have hx0 := heap_keep ((Grew.rf _).al (.cells #[.int .i64 0, .int .i64 0, .string { data := #[] }, .string { data := #[] }, .int .i64 0, .int .i64 0, .int .i64 0, .int .i64 0, .string { data := #[] }, .slice none 0 0, .string { data := #[] }, .int .i64 0, .slice none 0 0, .string { data := #[] }, .int .u64 0] 76)) (heap_alloc_new w (evO ⟨3, se, ti, me, ur, hs, bo, st, co, cr, no, 0⟩ A n c))
  have hr0 := heap_alloc_new (w.alloc (evO ⟨3, se, ti, me, ur, hs, bo, st, co, cr, no, 0⟩ A n c)) (.cells #[.int .i64 0, .int .i64 0, .string { data := #[] }, .string { data := #[] }, .int .i64 0, .int .i64 0, .int .i64 0, .int .i64 0, .string { data := #[] }, .slice none 0 0, .string { data := #[] }, .int .i64 0, .slice none 0 0, .string { data := #[] }, .int .u64 0] 76)
  have hgW : Grew w ((w.alloc (evO ⟨3, se, ti, me, ur, hs, bo, st, co, cr, no, 0⟩ A n c)).alloc (.cells #[.int .i64 0, .int .i64 0, .string { data := #[] }, .string { data := #[] }, .int .i64 0, .int .i64 0, .int .i64 0, .int .i64 0, .string { data := #[] }, .slice none 0 0, .string { data := #[] }, .int .i64 0, .slice none 0 0, .string { data := #[] }, .int .u64 0] 76)) := ((Grew.rf w).al _).al _
  rw [World.size_alloc] at hr0
  simp only [evO, evA] at hx0 hr0 hgW
  generalize (w.alloc (.cells #[.int .i64 3, .int .i64 se, .int .i64 ti, .string me, .string ur, .slice A n c, .string bo, .int .i64 st, .int .i64 co, .bool cr, .string no, .int .u64 0] 34)).alloc (.cells #[.int .i64 0, .int .i64 0, .string { data := #[] }, .string { data := #[] }, .int .i64 0, .int .i64 0, .int .i64 0, .int .i64 0, .string { data := #[] }, .slice none 0 0, .string { data := #[] }, .int .i64 0, .slice none 0 0, .string { data := #[] }, .int .u64 0] 76) = W at *
  obtain ⟨xb, hxb⟩ : ∃ xb, w.heap.size = xb := ⟨_, rfl⟩
  rw [hxb] at hx0 hr0 ⊢
  have HXB := Lib.hid hxb
  have HX0 := Lib.hid hx0
  have HR0 := Lib.hid hr0
  have HGW := Lib.hid hgW
  clear hxb hx0 hr0 hgW
  have hx0 := HX0.out
  have hr0 := HR0.out
  go_upto_region 4 with (first | ((with_reducible refine gate_ld' 34 (.tmp 1) rfl ?_); refine ld_row (.inl rfl) rfl rfl hx0 rfl Try.underlying34 (by kernel_rfl) ?_) | (go_at_call 38; refine Calls.mono (HG.out _ HGW.out) ?_; rintro e w2 ⟨rfl, hg2⟩; have hr2 := heap_keep hg2 hr0; have hx2 := heap_keep hg2 hx0; have c1 : w2.cell? ⟨xb, 1, none⟩ = some (.int .i64 se) := cell_of_heap hx2 rfl; have c11 : w2.cell? ⟨xb, 11, none⟩ = some (.int .u64 0) := cell_of_heap hx2 rfl))
  have hi3 := heap_alloc_new w2 (.cells #[.int .i64 0, .int .i64 se, .string { data := #[] }, .string { data := #[] }, .int .i64 0, .int .i64 0, .int .i64 0, .int .i64 0, .string { data := #[] }, .slice none 0 0, .string { data := #[] }, .int .i64 0, .slice none 0 0, .string { data := #[] }, .int .u64 0] 76)
  have hx3 := heap_keep ((Grew.rf w2).al (.cells #[.int .i64 0, .int .i64 se, .string { data := #[] }, .string { data := #[] }, .int .i64 0, .int .i64 0, .int .i64 0, .int .i64 0, .string { data := #[] }, .slice none 0 0, .string { data := #[] }, .int .i64 0, .slice none 0 0, .string { data := #[] }, .int .u64 0] 76)) hx2
  have hr3 := heap_keep ((Grew.rf w2).al (.cells #[.int .i64 0, .int .i64 se, .string { data := #[] }, .string { data := #[] }, .int .i64 0, .int .i64 0, .int .i64 0, .int .i64 0, .string { data := #[] }, .slice none 0 0, .string { data := #[] }, .int .i64 0, .slice none 0 0, .string { data := #[] }, .int .u64 0] 76)) hr2
  have hg3 : Grew w (w2.alloc (.cells #[.int .i64 0, .int .i64 se, .string { data := #[] }, .string { data := #[] }, .int .i64 0, .int .i64 0, .int .i64 0, .int .i64 0, .string { data := #[] }, .slice none 0 0, .string { data := #[] }, .int .i64 0, .slice none 0 0, .string { data := #[] }, .int .u64 0] 76)) := (HGW.out.tr hg2).al _
  have hlt : xb + 1 < w2.heap.size := (Array.getElem?_eq_some_iff.1 hr2).1
  generalize w2.alloc (.cells #[.int .i64 0, .int .i64 se, .string { data := #[] }, .string { data := #[] }, .int .i64 0, .int .i64 0, .int .i64 0, .int .i64 0, .string { data := #[] }, .slice none 0 0, .string { data := #[] }, .int .i64 0, .slice none 0 0, .string { data := #[] }, .int .u64 0] 76) = W3 at *
  obtain ⟨ib, hib⟩ : ∃ ib, w2.heap.size = ib := ⟨_, rfl⟩
  rw [hib] at hi3 hlt ⊢
  have HR3 := Lib.hid hr3
  have HG3 := Lib.hid hg3
  have HLT := Lib.hid hlt
  clear hib hx2 hr2 c1 c11 hg2 hr0 hx0 hg3 hlt
  have c0 : W3.cell? ⟨xb, 0, none⟩ = some (.int .i64 3) := cell_of_heap hx3 rfl
  have HX3 := Lib.hid hx3
  have HI3 := Lib.hid hi3
  have hbx : ∀ u, Chg (fun b => b = ib) W3 u → u.heap[xb]? = some (.cells #[.int .i64 3, .int .i64 se, .int .i64 ti, .string me, .string ur, .slice A n c, .string bo, .int .i64 st, .int .i64 co, .bool cr, .string no, .int .u64 0] 34) := fun u hu => hu.by_ HX3.out (fun e => by have := HLT.out; omega)
  have hix : ∀ u, Chg (fun b => b = ib) W3 u → Grew w u := fun u hu => grew_chg HG3.out hu (fun k e => by rw [e, HXB.out]; have := HLT.out; omega)
  have HBX := Lib.hid hbx
  have HIX := Lib.hid hix
  have hS : TwoK true true (GA ib se) (GB ib se) (fun _ => True) (fun _ => True) (fun u => Chg (fun b => b = ib) W3 u ∧ ∃ c0 c1 c2 c3, u.heap[ib]? = some (.cells (inC se c0 c1 c2 c3) 76)) :=
    ⟨fun u u' ⟨h, c0, c1, c2, c3, hc⟩ hg => ⟨h.tr (Chg.of hg), c0, c1, c2, c3, heap_keep hg hc⟩, fun u u' ⟨h, c0, c1, c2, c3, hc⟩ hg => ⟨h.tr ((chg1 hg.1.2).mono (fun b e => .inl e)), _, _, _, _, hg.2 _ _ _ _ hc⟩, fun u u' ⟨h, c0, c1, c2, c3, hc⟩ hg => by
      obtain ⟨hg1, d1, d2, d3, hd⟩ := hg
      exact ⟨h.tr ((chg1 hg1.2).mono (fun b e => .inl e)), _, _, _, _, hd _ _ _ _ hc⟩, fun _ _ _ _ => trivial, fun _ _ _ _ _ => trivial, fun _ _ _ _ => trivial, fun _ _ _ _ _ => trivial⟩
  have hB0 : Chg (fun b => b = ib) W3 W3 ∧ ∃ c0 c1 c2 c3, W3.heap[ib]? = some (.cells (inC se c0 c1 c2 c3) 76) := ⟨Chg.of (Grew.rf _), _, _, _, _, hi3⟩
  clear hbx hix hx3 hi3
  go_upto_region 9 with fail
  refine region_twoka 10 12 hS hB0 trivial trivial [] [[], [(0, 25)], [], [(2, 27)], [(3, 28)], [(4, 29)], [], [(6, 31)], [(1, 26), (5, 30), (7, 32)], [], [(9, 34)], [], [(8, 33), (11, 35)]] [(0, 25), (1, 26), (2, 27), (3, 28), (4, 29), (5, 30), (6, 31), (7, 32), (8, 33), (9, 34), (11, 35)] (fun
    | 0 => .eqv (.pointer (some ⟨xb, 7, none⟩)) | 1 => .eqv (.int .i64 st) | 2 => .eqv (.pointer (some ⟨xb, 5, none⟩)) | 3 => .eqv (.slice A n c) | 4 => pxHs ib se n hs (fun B d => .slice B n d) | 5 => pxHs ib se n hs (fun B d => .slice B n n) | 6 => .eqv (.pointer (some ⟨xb, 6, none⟩)) | 7 => .eqv (.string bo) | 8 => pxHs ib se n hs (fun B d => .agg #[.int .i64 st, .slice B n n, .string bo]) | 9 => .eqv (.pointer (some ⟨ib, 0, none⟩)) | 10 => pxKi ib se | 11 => .eqv (.pointer (some ⟨ib, 11, none⟩)) | 12 => pxRs ib se n hs st bo | _ => .any) rfl (by kernel_rfl) (by kernel_rfl) ?_ ?_
  · refine ⟨fun u hu hx => ?_, fun u hu hx => ?_, fun u hu hx => ?_, fun u hu hx => ?_, fun u hu hx => ?_, fun u hu hx => ?_, fun u hu hx => ?_, fun u hu hx => ?_, fun u hu hx => ?_, fun u hu hx => ?_, fun u hu hx => ?_, fun u hu hx => ?_, fun u hu hx => ?_, trivial⟩
    · refine StepGoal.nil ?_
      go_wp2
      exact ⟨rfl, rfl, Grew.rf _, rfl⟩
    · rintro _ rfl
      have hce : u.cell? ⟨xb, 7, none⟩ = some (.int .i64 st) := cell_of_heap (HBX.out u hu.1) rfl
      refine StepGoal.nil ?_
      simp only [Act.put, List.setIfInBounds_toArray, List.set_cons_zero, List.set_cons_succ]
      go_wp2
      exact ⟨rfl, rfl, Grew.rf _, rfl⟩
    · refine StepGoal.nil ?_
      go_wp2
      exact ⟨rfl, rfl, Grew.rf _, rfl⟩
    · rintro _ rfl
      have hce : u.cell? ⟨xb, 5, none⟩ = some (.slice A n c) := cell_of_heap (HBX.out u hu.1) rfl
      refine StepGoal.nil ?_
      simp only [Act.put, List.setIfInBounds_toArray, List.set_cons_zero, List.set_cons_succ]
      go_wp2
      exact ⟨rfl, rfl, Grew.rf _, rfl⟩
    · rintro _ rfl
      refine StepGoal.nil ?_
      simp only [Act.put, List.setIfInBounds_toArray, List.set_cons_zero, List.set_cons_succ]
      go_wp2_with (go_at_call 68; refine Calls.mono (HCL.out _ (HIX.out u hu.1)) ?_; rintro e w2 ⟨v2, rfl, ho2, hg2⟩)
      obtain ⟨B, d, rfl, hd1, hd2, hrd⟩ := ho2.rd; have hbk := ho2.hdB; rw [HL.out] at hd1 hrd ⊢; exact ⟨rfl, rfl, hg2, B, d, rfl, hd1, hd2, hrd, hbk⟩
    · rintro v29 h29
      obtain ⟨B, d, rfl, hd1, hd2, hrd, hbk⟩ : ∃ B d, v29 = .slice B n d ∧ n ≤ d ∧ d ≤ 9223372036854775807 ∧ RdH u B n hs ∧ HdB u B := h29
      refine StepGoal.nil ?_
      simp only [Act.put, List.setIfInBounds_toArray, List.set_cons_zero, List.set_cons_succ]
      go_wp2_with (go_at_call 66; refine Calls.mono (clipH_any _ _ _ _ hd1 hd2) ?_; rintro e w2 ⟨rfl, rfl⟩)
      exact ⟨rfl, rfl, Grew.rf _, B, d, rfl, hd1, hd2, hrd, hbk⟩
    · refine StepGoal.nil ?_
      go_wp2
      exact ⟨rfl, rfl, Grew.rf _, rfl⟩
    · rintro _ rfl
      have hce : u.cell? ⟨xb, 6, none⟩ = some (.string bo) := cell_of_heap (HBX.out u hu.1) rfl
      refine StepGoal.nil ?_
      simp only [Act.put, List.setIfInBounds_toArray, List.set_cons_zero, List.set_cons_succ]
      go_wp2
      exact ⟨rfl, rfl, Grew.rf _, rfl⟩
    · rintro _ rfl v30 h30 _ rfl
      obtain ⟨B, d, rfl, hd1, hd2, hrd, hbk⟩ : ∃ B d, v30 = .slice B n n ∧ n ≤ d ∧ d ≤ 9223372036854775807 ∧ RdH u B n hs ∧ HdB u B := h30
      refine StepGoal.nil ?_
      simp only [Act.put, List.setIfInBounds_toArray, List.set_cons_zero, List.set_cons_succ]
      go_wp2
      exact ⟨rfl, rfl, Grew.rf _, B, d, rfl, hd1, hd2, hrd, hbk⟩
    · refine StepGoal.nil ?_
      go_wp2
      exact ⟨rfl, rfl, Grew.rf _, rfl⟩
    · rintro _ rfl
      obtain ⟨c0, c1, c2, c3, hz⟩ := hu.2
      refine StepGoal.nil ?_
      simp only [Act.put, List.setIfInBounds_toArray, List.set_cons_zero, List.set_cons_succ]
      refine st_cell0 rfl rfl rfl rfl rfl rfl hz (by kernel_rfl) (by simp) ?_; intro W7 hW7 hby7
      exact ⟨rfl, rfl, ⟨⟨⟨_, _, hz⟩, hby7⟩, fun e0 e1 e2 e3 he => by rw [hz] at he; simp only [Option.some.injEq, Obj.cells.injEq, Array.mk.injEq, List.cons.injEq] at he; obtain ⟨⟨rfl, _, _, _, _, _, _, _, _, _, _, rfl, rfl, rfl, _⟩, _⟩ := he; exact hW7⟩, c1, c2, c3, hW7⟩
    · refine StepGoal.nil ?_
      go_wp2
      exact ⟨rfl, rfl, Grew.rf _, rfl⟩
    · rintro v33 h33 _ rfl
      obtain ⟨B, d, rfl, hd1, hd2, hrd, hbk⟩ : ∃ B d, v33 = .agg #[.int .i64 st, .slice B n n, .string bo] ∧ n ≤ d ∧ d ≤ 9223372036854775807 ∧ RdH u B n hs ∧ HdB u B := h33; obtain ⟨c0, c1, c2, c3, hz⟩ := hu.2
      refine StepGoal.nil ?_
      simp only [Act.put, List.setIfInBounds_toArray, List.set_cons_zero, List.set_cons_succ]
      refine st_mid0 rfl rfl rfl rfl rfl hz (by kernel_rfl) (by simp) (by simp [Value.oneCell']) ?_; intro W7 hW7 hby7
      have hq := rdH_gi (n := n) (l := hs) hrd hbk ⟨⟨_, _, hz⟩, hby7⟩; exact ⟨rfl, rfl, ⟨⟨⟨_, _, hz⟩, hby7⟩, _, _, _, fun e0 e1 e2 e3 he => by rw [hz] at he; simp only [Option.some.injEq, Obj.cells.injEq, Array.mk.injEq, List.cons.injEq] at he; obtain ⟨⟨rfl, _, _, _, _, _, _, _, _, _, _, rfl, rfl, rfl, _⟩, _⟩ := he; exact hW7⟩, c0, B, hW7, hq⟩
  · intro u hu hall
    rintro _ rfl _ rfl _ rfl _ rfl v29 h29 v30 h30 _ rfl _ rfl v33 h33 _ rfl _ rfl
    refine StepGoal.nil ?_
    simp only [Act.put, List.setIfInBounds_toArray, List.set_cons_zero, List.set_cons_succ]
    obtain ⟨v10, h10⟩ := hall 10 (by decide)
    obtain ⟨v12, h12⟩ := hall 12 (by decide)
    have hq0 : ∃ c1 c2 c3, u.heap[ib]? = some (.cells (inC se (.int .i64 2) c1 c2 c3) 76) := h10
    have hq : ∃ c0 B, u.heap[ib]? = some (.cells (inC se c0 (.int .i64 st) (.slice B n n) (.string bo)) 76) ∧ RdH u B n hs ∧ HdB u B := h12
    obtain ⟨c0', B, hW5', hrd, hbk⟩ := hq
    obtain ⟨c1, c2, c3, hq0⟩ := hq0
    have hc0 : c0' = .int .i64 2 := by rw [hW5'] at hq0; simp only [Option.some.injEq, Obj.cells.injEq, Array.mk.injEq, List.cons.injEq] at hq0; exact hq0.1.1
    subst hc0
    have HU := Lib.hid (HIX.out u hu.1)
    have hr5 := hu.1.by_ HR3.out (fun e => by have := HLT.out; omega)
    clear h10 h12 hall hS hB0 hu hq0
    go_wp2_with (first | ((with_reducible refine gate_ld' 76 (.tmp 4) rfl ?_); refine ld_row (.inl rfl) rfl rfl hW5' rfl Try.underlying76 (by kernel_rfl) ?_) | ((with_reducible refine gate_st 76 (.tmp 2) (.tmp 45) rfl ?_); refine st_row0 rfl rfl rfl rfl rfl hr5 (by kernel_rfl) rfl (by simp [Value.oneCell']) ?_; intro W6 hW6 hby6))
    have hg7 : Grew w W6 := grown_at HU.out hby6 (by rw [HXB.out]; omega) HU.out.size
    have hn5 := hbk.ne hr5 (by decide)
    refine bodyPost_ret (inp_ret rfl rfl hW6 rfl) rfl ?_
    rw [HIN.out]
    exact ⟨none, 0, 0, B, n, n, rfl, RdV.nil _ _ _, hrd.by_ hby6 hn5, by omega, hn, hg7⟩
end Go.Proofs.Ytbkcpgaicoagfaa
