/- event.Input. Printed by wip/mkEv15.py. -/
import Derived.Test.YtbkcpgaicoagfaaEg25
import Derived.Test.YtbkcpgaicoagfaaEg29
import Derived.Test.YtbkcpgaicoagfaaEg22
import Derived.Test.YtbkcpgaicoagfaaEg11
set_option linter.unusedVariables false
set_option linter.unusedSimpArgs false
namespace Go.Proofs.Ytbkcpgaicoagfaa
open Go.RowKit

/-- An input. -/
structure Inp where
  k : Int
  se : Int
  me : ByteArray
  ur : ByteArray
  m1 : Int
  m2 : Int
  m3 : Int
  m4 : Int
  no : ByteArray
  hs : List Hdr
  bo : ByteArray
  st : Int
  h2 : List Hdr
  b2 : ByteArray
  nn : Int
abbrev inA (i : Inp) (A : Option Addr) (n c : Nat) (B : Option Addr) (m d : Nat) : Array Value := #[.int .i64 i.k, .int .i64 i.se, .string i.me, .string i.ur, .int .i64 i.m1, .int .i64 i.m2, .int .i64 i.m3, .int .i64 i.m4, .string i.no, .slice A n c, .string i.bo, .int .i64 i.st, .slice B m d, .string i.b2, .int .u64 i.nn]
abbrev inZ : Inp := ⟨0, 0, noT, noT, 0, 0, 0, 0, noT, [], noT, 0, [], noT, 0⟩
/-- The input that an event is of, and whether it is of one. -/
def inE (x : Ev) : Inp × Bool :=
  if goodE x = false then (inZ, false)
  else if x.ki = 1 then (⟨1, x.se, x.me, x.ur, x.co % 4, x.co / 4 % 4, x.co / 16 % 4, x.co / 64, x.no, x.hs, x.bo, 0, [], noT, 0⟩, true)
  else if x.ki = 3 then (⟨2, x.se, noT, noT, 0, 0, 0, 0, noT, [], noT, x.st, x.hs, x.bo, 0⟩, true)
  else if x.ki = 4 then (⟨3, x.se, noT, noT, 0, 0, 0, 0, noT, [], noT, 0, [], noT, 0⟩, true)
  else if x.ki = 5 then (⟨4, 0, noT, noT, 0, 0, 0, 0, noT, [], noT, 0, [], noT, x.nn⟩, true)
  else if x.ki = 6 then (⟨5, x.se, noT, noT, 0, 0, 0, 0, noT, [], noT, 0, [], noT, x.nn⟩, true)
  else (inZ, false)
/-- An input that a call hands back. -/
def InpQ (w : World) (i : Inp × Bool) (e : Ending) (w' : World) : Prop :=
  ∃ A n c B m d, e = .returned (.tuple #[.agg (inA i.1 A n c B m d), .bool i.2]) ∧ RdH w' A n i.1.hs ∧ RdH w' B m i.1.h2 ∧ n ≤ 1000 ∧ m ≤ 1000 ∧ Grew w w'
theorem inp_ret {tmps : Array Value} {W : World} {K : Nat} {cs : Array Value} {v3 : Value} (h2 : tmps.getD 2 undef = .pointer (some ⟨K, 0, none⟩)) (h3 : tmps.getD 3 undef = v3) (hK : W.heap[K]? = some (.cells cs 76)) (hs : cs.size = 15) :
    (results Try.f36 tmps).run Try.prog W = .ok (.tuple #[.agg cs, v3]) W := by
  have hl := run_loadVar_row (P := Try.prog) W K 76 76 cs (0, 0) _ hK Try.underlying76 rfl (by rw [hs]; kernel_rfl)
  have h2' : tmps[2]?.getD undef = .pointer (some ⟨K, 0, none⟩) := by simpa using h2
  have h3' : tmps[3]?.getD undef = v3 := by simpa using h3
  simp [results, Try.results36, h2', h3', asAddr, hl]
abbrev InpC (x : Ev) (A : Option Addr) (n c : Nat) (w : World) : Prop := Calls Try.prog 36 #[evV x A n c] w (InpQ w (inE x))

set_option maxRecDepth 100000 in
set_option maxHeartbeats 6400000 in
theorem input_bad (ki se ti : Int) (me ur : ByteArray) (hs : List Hdr) (bo : ByteArray) (st co : Int) (cr : Bool) (no : ByteArray) (nn : Int) (A : Option Addr) (n c : Nat) (w : World) (hgd : goodE ⟨ki, se, ti, me, ur, hs, bo, st, co, cr, no, nn⟩ = false) (hr : RdH w A n hs) (hA : A = none → n = 0 ∧ c = 0) (hn : n ≤ 1000) : InpC ⟨ki, se, ti, me, ur, hs, bo, st, co, cr, no, nn⟩ A n c w := by
  have hin : inE ⟨ki, se, ti, me, ur, hs, bo, st, co, cr, no, nn⟩ = (inZ, false) := by
    unfold inE
    rw [if_pos hgd]
  have HIN := Lib.hid hin
  have hg := fun (u : World) (hu : Grew w u) => egood_any ⟨ki, se, ti, me, ur, hs, bo, st, co, cr, no, nn⟩ A n c u (hr.keep hu) hA hn
  unfold GoodC at hg
  rw [hgd] at hg
  have HG := Lib.hid hg
  clear hin hg hgd hr hA
  show Calls _ _ _ _ _
  go_enter Try.func36, Try.ntmps36
  go_upto_region 1 with fail
  have hx0 := heap_keep ((Grew.rf _).al (.cells #[.int .i64 0, .int .i64 0, .string { data := #[] }, .string { data := #[] }, .int .i64 0, .int .i64 0, .int .i64 0, .int .i64 0, .string { data := #[] }, .slice none 0 0, .string { data := #[] }, .int .i64 0, .slice none 0 0, .string { data := #[] }, .int .u64 0] 76)) (heap_alloc_new w (evO ⟨ki, se, ti, me, ur, hs, bo, st, co, cr, no, nn⟩ A n c))
  have hr0 := heap_alloc_new (w.alloc (evO ⟨ki, se, ti, me, ur, hs, bo, st, co, cr, no, nn⟩ A n c)) (.cells #[.int .i64 0, .int .i64 0, .string { data := #[] }, .string { data := #[] }, .int .i64 0, .int .i64 0, .int .i64 0, .int .i64 0, .string { data := #[] }, .slice none 0 0, .string { data := #[] }, .int .i64 0, .slice none 0 0, .string { data := #[] }, .int .u64 0] 76)
  have hgW : Grew w ((w.alloc (evO ⟨ki, se, ti, me, ur, hs, bo, st, co, cr, no, nn⟩ A n c)).alloc (.cells #[.int .i64 0, .int .i64 0, .string { data := #[] }, .string { data := #[] }, .int .i64 0, .int .i64 0, .int .i64 0, .int .i64 0, .string { data := #[] }, .slice none 0 0, .string { data := #[] }, .int .i64 0, .slice none 0 0, .string { data := #[] }, .int .u64 0] 76)) := ((Grew.rf w).al _).al _
  rw [World.size_alloc] at hr0
  simp only [evO, evA] at hx0 hr0 hgW
  generalize (w.alloc (.cells #[.int .i64 ki, .int .i64 se, .int .i64 ti, .string me, .string ur, .slice A n c, .string bo, .int .i64 st, .int .i64 co, .bool cr, .string no, .int .u64 nn] 34)).alloc (.cells #[.int .i64 0, .int .i64 0, .string { data := #[] }, .string { data := #[] }, .int .i64 0, .int .i64 0, .int .i64 0, .int .i64 0, .string { data := #[] }, .slice none 0 0, .string { data := #[] }, .int .i64 0, .slice none 0 0, .string { data := #[] }, .int .u64 0] 76) = W at *
  obtain ⟨xb, hxb⟩ : ∃ xb, w.heap.size = xb := ⟨_, rfl⟩
  rw [hxb] at hx0 hr0 ⊢
  have HXB := Lib.hid hxb
  have HX0 := Lib.hid hx0
  have HR0 := Lib.hid hr0
  have HGW := Lib.hid hgW
  clear hxb hx0 hr0 hgW
  have hx0 := HX0.out
  have hr0 := HR0.out
  go_wp2_with (first | ((with_reducible refine gate_ld' 34 (.tmp 1) rfl ?_); refine ld_row (.inl rfl) rfl rfl hx0 rfl Try.underlying34 (by kernel_rfl) ?_) | (go_at_call 38; refine Calls.mono (HG.out _ HGW.out) ?_; rintro e w2 ⟨rfl, hg2⟩; have hr2 := heap_keep hg2 hr0) | ((with_reducible refine gate_st 76 (.tmp 2) (.tmp 8) rfl ?_); refine st_row0 rfl rfl rfl rfl rfl hr2 (by kernel_rfl) rfl (by simp [Value.oneCell']) ?_; intro W3 hW3 hby3))
  have hg3 : Grew w W3 := grown_at (HGW.out.tr hg2) hby3 (by rw [HXB.out]; omega) (HGW.out.tr hg2).size
  refine bodyPost_ret (inp_ret rfl rfl hW3 rfl) rfl ?_
  rw [HIN.out]
  exact ⟨none, 0, 0, none, 0, 0, rfl, RdV.nil _ _ _, RdV.nil _ _ _, by omega, by omega, hg3⟩

set_option maxRecDepth 100000 in
set_option maxHeartbeats 6400000 in
theorem input_4 (se ti : Int) (me ur : ByteArray) (hs : List Hdr) (bo : ByteArray) (st co : Int) (cr : Bool) (no : ByteArray) (nn : Int) (A : Option Addr) (n c : Nat) (w : World) (hgd : goodE ⟨4, se, ti, me, ur, hs, bo, st, co, cr, no, nn⟩ = true) (hr : RdH w A n hs) (hA : A = none → n = 0 ∧ c = 0) (hn : n ≤ 1000) : InpC ⟨4, se, ti, me, ur, hs, bo, st, co, cr, no, nn⟩ A n c w := by
  have hin : inE ⟨4, se, ti, me, ur, hs, bo, st, co, cr, no, nn⟩ = (⟨3, se, noT, noT, 0, 0, 0, 0, noT, [], noT, 0, [], noT, nn⟩, true) := by
    unfold inE
    rw [if_neg (by rw [hgd]; simp)]
    have hgk : goodK ⟨4, se, ti, me, ur, hs, bo, st, co, cr, no, nn⟩ = true := by unfold goodE at hgd; exact (Bool.and_eq_true_iff.1 hgd).2
    simp [goodK] at hgk
    have hnn : nn = 0 := by simp [hgk]
    rw [hnn]
    simp

  have HIN := Lib.hid hin
  have hg := fun (u : World) (hu : Grew w u) => egood_any ⟨4, se, ti, me, ur, hs, bo, st, co, cr, no, nn⟩ A n c u (hr.keep hu) hA hn
  unfold GoodC at hg
  rw [hgd] at hg
  have HG := Lib.hid hg
  clear hin hg hgd hr hA
  show Calls _ _ _ _ _
  go_enter Try.func36, Try.ntmps36
  go_upto_region 1 with fail
  have hx0 := heap_keep ((Grew.rf _).al (.cells #[.int .i64 0, .int .i64 0, .string { data := #[] }, .string { data := #[] }, .int .i64 0, .int .i64 0, .int .i64 0, .int .i64 0, .string { data := #[] }, .slice none 0 0, .string { data := #[] }, .int .i64 0, .slice none 0 0, .string { data := #[] }, .int .u64 0] 76)) (heap_alloc_new w (evO ⟨4, se, ti, me, ur, hs, bo, st, co, cr, no, nn⟩ A n c))
  have hr0 := heap_alloc_new (w.alloc (evO ⟨4, se, ti, me, ur, hs, bo, st, co, cr, no, nn⟩ A n c)) (.cells #[.int .i64 0, .int .i64 0, .string { data := #[] }, .string { data := #[] }, .int .i64 0, .int .i64 0, .int .i64 0, .int .i64 0, .string { data := #[] }, .slice none 0 0, .string { data := #[] }, .int .i64 0, .slice none 0 0, .string { data := #[] }, .int .u64 0] 76)
  have hgW : Grew w ((w.alloc (evO ⟨4, se, ti, me, ur, hs, bo, st, co, cr, no, nn⟩ A n c)).alloc (.cells #[.int .i64 0, .int .i64 0, .string { data := #[] }, .string { data := #[] }, .int .i64 0, .int .i64 0, .int .i64 0, .int .i64 0, .string { data := #[] }, .slice none 0 0, .string { data := #[] }, .int .i64 0, .slice none 0 0, .string { data := #[] }, .int .u64 0] 76)) := ((Grew.rf w).al _).al _
  rw [World.size_alloc] at hr0
  simp only [evO, evA] at hx0 hr0 hgW
  generalize (w.alloc (.cells #[.int .i64 4, .int .i64 se, .int .i64 ti, .string me, .string ur, .slice A n c, .string bo, .int .i64 st, .int .i64 co, .bool cr, .string no, .int .u64 nn] 34)).alloc (.cells #[.int .i64 0, .int .i64 0, .string { data := #[] }, .string { data := #[] }, .int .i64 0, .int .i64 0, .int .i64 0, .int .i64 0, .string { data := #[] }, .slice none 0 0, .string { data := #[] }, .int .i64 0, .slice none 0 0, .string { data := #[] }, .int .u64 0] 76) = W at *
  obtain ⟨xb, hxb⟩ : ∃ xb, w.heap.size = xb := ⟨_, rfl⟩
  rw [hxb] at hx0 hr0 ⊢
  have HXB := Lib.hid hxb
  have HX0 := Lib.hid hx0
  have HR0 := Lib.hid hr0
  have HGW := Lib.hid hgW
  clear hxb hx0 hr0 hgW
  have hx0 := HX0.out
  have hr0 := HR0.out
  go_upto_region 4 with (first | ((with_reducible refine gate_ld' 34 (.tmp 1) rfl ?_); refine ld_row (.inl rfl) rfl rfl hx0 rfl Try.underlying34 (by kernel_rfl) ?_) | (go_at_call 38; refine Calls.mono (HG.out _ HGW.out) ?_; rintro e w2 ⟨rfl, hg2⟩; have hr2 := heap_keep hg2 hr0; have hx2 := heap_keep hg2 hx0; have c1 : w2.cell? ⟨xb, 1, none⟩ = some (.int .i64 se) := cell_of_heap hx2 rfl; have c11 : w2.cell? ⟨xb, 11, none⟩ = some (.int .u64 nn) := cell_of_heap hx2 rfl))
  have hi3 := heap_alloc_new w2 (.cells #[.int .i64 0, .int .i64 se, .string { data := #[] }, .string { data := #[] }, .int .i64 0, .int .i64 0, .int .i64 0, .int .i64 0, .string { data := #[] }, .slice none 0 0, .string { data := #[] }, .int .i64 0, .slice none 0 0, .string { data := #[] }, .int .u64 nn] 76)
  have hx3 := heap_keep ((Grew.rf w2).al (.cells #[.int .i64 0, .int .i64 se, .string { data := #[] }, .string { data := #[] }, .int .i64 0, .int .i64 0, .int .i64 0, .int .i64 0, .string { data := #[] }, .slice none 0 0, .string { data := #[] }, .int .i64 0, .slice none 0 0, .string { data := #[] }, .int .u64 nn] 76)) hx2
  have hr3 := heap_keep ((Grew.rf w2).al (.cells #[.int .i64 0, .int .i64 se, .string { data := #[] }, .string { data := #[] }, .int .i64 0, .int .i64 0, .int .i64 0, .int .i64 0, .string { data := #[] }, .slice none 0 0, .string { data := #[] }, .int .i64 0, .slice none 0 0, .string { data := #[] }, .int .u64 nn] 76)) hr2
  have hg3 : Grew w (w2.alloc (.cells #[.int .i64 0, .int .i64 se, .string { data := #[] }, .string { data := #[] }, .int .i64 0, .int .i64 0, .int .i64 0, .int .i64 0, .string { data := #[] }, .slice none 0 0, .string { data := #[] }, .int .i64 0, .slice none 0 0, .string { data := #[] }, .int .u64 nn] 76)) := (HGW.out.tr hg2).al _
  have hlt : xb + 1 < w2.heap.size := (Array.getElem?_eq_some_iff.1 hr2).1
  generalize w2.alloc (.cells #[.int .i64 0, .int .i64 se, .string { data := #[] }, .string { data := #[] }, .int .i64 0, .int .i64 0, .int .i64 0, .int .i64 0, .string { data := #[] }, .slice none 0 0, .string { data := #[] }, .int .i64 0, .slice none 0 0, .string { data := #[] }, .int .u64 nn] 76) = W3 at *
  obtain ⟨ib, hib⟩ : ∃ ib, w2.heap.size = ib := ⟨_, rfl⟩
  rw [hib] at hi3 hlt ⊢
  have HR3 := Lib.hid hr3
  have HG3 := Lib.hid hg3
  have HLT := Lib.hid hlt
  clear hib hx2 hr2 c1 c11 hg2 hr0 hx0 hg3 hlt
  have c0 : W3.cell? ⟨xb, 0, none⟩ = some (.int .i64 4) := cell_of_heap hx3 rfl
  go_wp2_with (first | ((with_reducible refine gate_st 3 (.tmp 38) (.const (.int .i64 3)) rfl ?_); refine st_cell0 rfl rfl rfl rfl rfl rfl hi3 (by kernel_rfl) (by simp) ?_; intro W4 hW4 hby4; have hW4' : W4.heap[ib]? = some (.cells #[.int .i64 3, .int .i64 se, .string { data := #[] }, .string { data := #[] }, .int .i64 0, .int .i64 0, .int .i64 0, .int .i64 0, .string { data := #[] }, .slice none 0 0, .string { data := #[] }, .int .i64 0, .slice none 0 0, .string { data := #[] }, .int .u64 nn] 76) := hW4; have hr4 := by_other hby4 HR3.out (by have := HLT.out; omega)) | ((with_reducible refine gate_ld' 76 (.tmp 4) rfl ?_); refine ld_row (.inl rfl) rfl rfl hW4' rfl Try.underlying76 (by kernel_rfl) ?_) | ((with_reducible refine gate_st 76 (.tmp 2) (.tmp 45) rfl ?_); refine st_row0 rfl rfl rfl rfl rfl hr4 (by kernel_rfl) rfl (by simp [Value.oneCell']) ?_; intro W5 hW5 hby5))
  have hg4 : Grew w W4 := grown_at HG3.out hby4 (by rw [HXB.out]; have := HLT.out; omega) HG3.out.size
  have hg5 : Grew w W5 := grown_at hg4 hby5 (by rw [HXB.out]; omega) hg4.size
  refine bodyPost_ret (inp_ret rfl rfl hW5 rfl) rfl ?_
  rw [HIN.out]
  exact ⟨none, 0, 0, none, 0, 0, rfl, RdV.nil _ _ _, RdV.nil _ _ _, by omega, by omega, hg5⟩

set_option maxRecDepth 100000 in
set_option maxHeartbeats 6400000 in
theorem input_5 (se ti : Int) (me ur : ByteArray) (hs : List Hdr) (bo : ByteArray) (st co : Int) (cr : Bool) (no : ByteArray) (nn : Int) (A : Option Addr) (n c : Nat) (w : World) (hgd : goodE ⟨5, se, ti, me, ur, hs, bo, st, co, cr, no, nn⟩ = true) (hr : RdH w A n hs) (hA : A = none → n = 0 ∧ c = 0) (hn : n ≤ 1000) : InpC ⟨5, se, ti, me, ur, hs, bo, st, co, cr, no, nn⟩ A n c w := by
  have hin : inE ⟨5, se, ti, me, ur, hs, bo, st, co, cr, no, nn⟩ = (⟨4, se, noT, noT, 0, 0, 0, 0, noT, [], noT, 0, [], noT, nn⟩, true) := by
    unfold inE
    rw [if_neg (by rw [hgd]; simp)]
    have hgk : goodK ⟨5, se, ti, me, ur, hs, bo, st, co, cr, no, nn⟩ = true := by unfold goodE at hgd; exact (Bool.and_eq_true_iff.1 hgd).2
    simp [goodK] at hgk
    have hse : se = 0 := by simp [hgk]
    rw [hse]
    simp

  have HIN := Lib.hid hin
  have hg := fun (u : World) (hu : Grew w u) => egood_any ⟨5, se, ti, me, ur, hs, bo, st, co, cr, no, nn⟩ A n c u (hr.keep hu) hA hn
  unfold GoodC at hg
  rw [hgd] at hg
  have HG := Lib.hid hg
  clear hin hg hgd hr hA
  show Calls _ _ _ _ _
  go_enter Try.func36, Try.ntmps36
  go_upto_region 1 with fail
  have hx0 := heap_keep ((Grew.rf _).al (.cells #[.int .i64 0, .int .i64 0, .string { data := #[] }, .string { data := #[] }, .int .i64 0, .int .i64 0, .int .i64 0, .int .i64 0, .string { data := #[] }, .slice none 0 0, .string { data := #[] }, .int .i64 0, .slice none 0 0, .string { data := #[] }, .int .u64 0] 76)) (heap_alloc_new w (evO ⟨5, se, ti, me, ur, hs, bo, st, co, cr, no, nn⟩ A n c))
  have hr0 := heap_alloc_new (w.alloc (evO ⟨5, se, ti, me, ur, hs, bo, st, co, cr, no, nn⟩ A n c)) (.cells #[.int .i64 0, .int .i64 0, .string { data := #[] }, .string { data := #[] }, .int .i64 0, .int .i64 0, .int .i64 0, .int .i64 0, .string { data := #[] }, .slice none 0 0, .string { data := #[] }, .int .i64 0, .slice none 0 0, .string { data := #[] }, .int .u64 0] 76)
  have hgW : Grew w ((w.alloc (evO ⟨5, se, ti, me, ur, hs, bo, st, co, cr, no, nn⟩ A n c)).alloc (.cells #[.int .i64 0, .int .i64 0, .string { data := #[] }, .string { data := #[] }, .int .i64 0, .int .i64 0, .int .i64 0, .int .i64 0, .string { data := #[] }, .slice none 0 0, .string { data := #[] }, .int .i64 0, .slice none 0 0, .string { data := #[] }, .int .u64 0] 76)) := ((Grew.rf w).al _).al _
  rw [World.size_alloc] at hr0
  simp only [evO, evA] at hx0 hr0 hgW
  generalize (w.alloc (.cells #[.int .i64 5, .int .i64 se, .int .i64 ti, .string me, .string ur, .slice A n c, .string bo, .int .i64 st, .int .i64 co, .bool cr, .string no, .int .u64 nn] 34)).alloc (.cells #[.int .i64 0, .int .i64 0, .string { data := #[] }, .string { data := #[] }, .int .i64 0, .int .i64 0, .int .i64 0, .int .i64 0, .string { data := #[] }, .slice none 0 0, .string { data := #[] }, .int .i64 0, .slice none 0 0, .string { data := #[] }, .int .u64 0] 76) = W at *
  obtain ⟨xb, hxb⟩ : ∃ xb, w.heap.size = xb := ⟨_, rfl⟩
  rw [hxb] at hx0 hr0 ⊢
  have HXB := Lib.hid hxb
  have HX0 := Lib.hid hx0
  have HR0 := Lib.hid hr0
  have HGW := Lib.hid hgW
  clear hxb hx0 hr0 hgW
  have hx0 := HX0.out
  have hr0 := HR0.out
  go_upto_region 4 with (first | ((with_reducible refine gate_ld' 34 (.tmp 1) rfl ?_); refine ld_row (.inl rfl) rfl rfl hx0 rfl Try.underlying34 (by kernel_rfl) ?_) | (go_at_call 38; refine Calls.mono (HG.out _ HGW.out) ?_; rintro e w2 ⟨rfl, hg2⟩; have hr2 := heap_keep hg2 hr0; have hx2 := heap_keep hg2 hx0; have c1 : w2.cell? ⟨xb, 1, none⟩ = some (.int .i64 se) := cell_of_heap hx2 rfl; have c11 : w2.cell? ⟨xb, 11, none⟩ = some (.int .u64 nn) := cell_of_heap hx2 rfl))
  have hi3 := heap_alloc_new w2 (.cells #[.int .i64 0, .int .i64 se, .string { data := #[] }, .string { data := #[] }, .int .i64 0, .int .i64 0, .int .i64 0, .int .i64 0, .string { data := #[] }, .slice none 0 0, .string { data := #[] }, .int .i64 0, .slice none 0 0, .string { data := #[] }, .int .u64 nn] 76)
  have hx3 := heap_keep ((Grew.rf w2).al (.cells #[.int .i64 0, .int .i64 se, .string { data := #[] }, .string { data := #[] }, .int .i64 0, .int .i64 0, .int .i64 0, .int .i64 0, .string { data := #[] }, .slice none 0 0, .string { data := #[] }, .int .i64 0, .slice none 0 0, .string { data := #[] }, .int .u64 nn] 76)) hx2
  have hr3 := heap_keep ((Grew.rf w2).al (.cells #[.int .i64 0, .int .i64 se, .string { data := #[] }, .string { data := #[] }, .int .i64 0, .int .i64 0, .int .i64 0, .int .i64 0, .string { data := #[] }, .slice none 0 0, .string { data := #[] }, .int .i64 0, .slice none 0 0, .string { data := #[] }, .int .u64 nn] 76)) hr2
  have hg3 : Grew w (w2.alloc (.cells #[.int .i64 0, .int .i64 se, .string { data := #[] }, .string { data := #[] }, .int .i64 0, .int .i64 0, .int .i64 0, .int .i64 0, .string { data := #[] }, .slice none 0 0, .string { data := #[] }, .int .i64 0, .slice none 0 0, .string { data := #[] }, .int .u64 nn] 76)) := (HGW.out.tr hg2).al _
  have hlt : xb + 1 < w2.heap.size := (Array.getElem?_eq_some_iff.1 hr2).1
  generalize w2.alloc (.cells #[.int .i64 0, .int .i64 se, .string { data := #[] }, .string { data := #[] }, .int .i64 0, .int .i64 0, .int .i64 0, .int .i64 0, .string { data := #[] }, .slice none 0 0, .string { data := #[] }, .int .i64 0, .slice none 0 0, .string { data := #[] }, .int .u64 nn] 76) = W3 at *
  obtain ⟨ib, hib⟩ : ∃ ib, w2.heap.size = ib := ⟨_, rfl⟩
  rw [hib] at hi3 hlt ⊢
  have HR3 := Lib.hid hr3
  have HG3 := Lib.hid hg3
  have HLT := Lib.hid hlt
  clear hib hx2 hr2 c1 c11 hg2 hr0 hx0 hg3 hlt
  have c0 : W3.cell? ⟨xb, 0, none⟩ = some (.int .i64 5) := cell_of_heap hx3 rfl
  go_wp2_with (first | ((with_reducible refine gate_st 3 (.tmp 41) (.const (.int .i64 4)) rfl ?_); refine st_cell0 rfl rfl rfl rfl rfl rfl hi3 (by kernel_rfl) (by simp) ?_; intro W4 hW4 hby4; have hW4' : W4.heap[ib]? = some (.cells #[.int .i64 4, .int .i64 se, .string { data := #[] }, .string { data := #[] }, .int .i64 0, .int .i64 0, .int .i64 0, .int .i64 0, .string { data := #[] }, .slice none 0 0, .string { data := #[] }, .int .i64 0, .slice none 0 0, .string { data := #[] }, .int .u64 nn] 76) := hW4; have hr4 := by_other hby4 HR3.out (by have := HLT.out; omega)) | ((with_reducible refine gate_ld' 76 (.tmp 4) rfl ?_); refine ld_row (.inl rfl) rfl rfl hW4' rfl Try.underlying76 (by kernel_rfl) ?_) | ((with_reducible refine gate_st 76 (.tmp 2) (.tmp 45) rfl ?_); refine st_row0 rfl rfl rfl rfl rfl hr4 (by kernel_rfl) rfl (by simp [Value.oneCell']) ?_; intro W5 hW5 hby5))
  have hg4 : Grew w W4 := grown_at HG3.out hby4 (by rw [HXB.out]; have := HLT.out; omega) HG3.out.size
  have hg5 : Grew w W5 := grown_at hg4 hby5 (by rw [HXB.out]; omega) hg4.size
  refine bodyPost_ret (inp_ret rfl rfl hW5 rfl) rfl ?_
  rw [HIN.out]
  exact ⟨none, 0, 0, none, 0, 0, rfl, RdV.nil _ _ _, RdV.nil _ _ _, by omega, by omega, hg5⟩

set_option maxRecDepth 100000 in
set_option maxHeartbeats 6400000 in
theorem input_6 (se ti : Int) (me ur : ByteArray) (hs : List Hdr) (bo : ByteArray) (st co : Int) (cr : Bool) (no : ByteArray) (nn : Int) (A : Option Addr) (n c : Nat) (w : World) (hgd : goodE ⟨6, se, ti, me, ur, hs, bo, st, co, cr, no, nn⟩ = true) (hr : RdH w A n hs) (hA : A = none → n = 0 ∧ c = 0) (hn : n ≤ 1000) : InpC ⟨6, se, ti, me, ur, hs, bo, st, co, cr, no, nn⟩ A n c w := by
  have hin : inE ⟨6, se, ti, me, ur, hs, bo, st, co, cr, no, nn⟩ = (⟨5, se, noT, noT, 0, 0, 0, 0, noT, [], noT, 0, [], noT, nn⟩, true) := by
    unfold inE
    rw [if_neg (by rw [hgd]; simp)]
    simp

  have HIN := Lib.hid hin
  have hg := fun (u : World) (hu : Grew w u) => egood_any ⟨6, se, ti, me, ur, hs, bo, st, co, cr, no, nn⟩ A n c u (hr.keep hu) hA hn
  unfold GoodC at hg
  rw [hgd] at hg
  have HG := Lib.hid hg
  clear hin hg hgd hr hA
  show Calls _ _ _ _ _
  go_enter Try.func36, Try.ntmps36
  go_upto_region 1 with fail
  have hx0 := heap_keep ((Grew.rf _).al (.cells #[.int .i64 0, .int .i64 0, .string { data := #[] }, .string { data := #[] }, .int .i64 0, .int .i64 0, .int .i64 0, .int .i64 0, .string { data := #[] }, .slice none 0 0, .string { data := #[] }, .int .i64 0, .slice none 0 0, .string { data := #[] }, .int .u64 0] 76)) (heap_alloc_new w (evO ⟨6, se, ti, me, ur, hs, bo, st, co, cr, no, nn⟩ A n c))
  have hr0 := heap_alloc_new (w.alloc (evO ⟨6, se, ti, me, ur, hs, bo, st, co, cr, no, nn⟩ A n c)) (.cells #[.int .i64 0, .int .i64 0, .string { data := #[] }, .string { data := #[] }, .int .i64 0, .int .i64 0, .int .i64 0, .int .i64 0, .string { data := #[] }, .slice none 0 0, .string { data := #[] }, .int .i64 0, .slice none 0 0, .string { data := #[] }, .int .u64 0] 76)
  have hgW : Grew w ((w.alloc (evO ⟨6, se, ti, me, ur, hs, bo, st, co, cr, no, nn⟩ A n c)).alloc (.cells #[.int .i64 0, .int .i64 0, .string { data := #[] }, .string { data := #[] }, .int .i64 0, .int .i64 0, .int .i64 0, .int .i64 0, .string { data := #[] }, .slice none 0 0, .string { data := #[] }, .int .i64 0, .slice none 0 0, .string { data := #[] }, .int .u64 0] 76)) := ((Grew.rf w).al _).al _
  rw [World.size_alloc] at hr0
  simp only [evO, evA] at hx0 hr0 hgW
  generalize (w.alloc (.cells #[.int .i64 6, .int .i64 se, .int .i64 ti, .string me, .string ur, .slice A n c, .string bo, .int .i64 st, .int .i64 co, .bool cr, .string no, .int .u64 nn] 34)).alloc (.cells #[.int .i64 0, .int .i64 0, .string { data := #[] }, .string { data := #[] }, .int .i64 0, .int .i64 0, .int .i64 0, .int .i64 0, .string { data := #[] }, .slice none 0 0, .string { data := #[] }, .int .i64 0, .slice none 0 0, .string { data := #[] }, .int .u64 0] 76) = W at *
  obtain ⟨xb, hxb⟩ : ∃ xb, w.heap.size = xb := ⟨_, rfl⟩
  rw [hxb] at hx0 hr0 ⊢
  have HXB := Lib.hid hxb
  have HX0 := Lib.hid hx0
  have HR0 := Lib.hid hr0
  have HGW := Lib.hid hgW
  clear hxb hx0 hr0 hgW
  have hx0 := HX0.out
  have hr0 := HR0.out
  go_upto_region 4 with (first | ((with_reducible refine gate_ld' 34 (.tmp 1) rfl ?_); refine ld_row (.inl rfl) rfl rfl hx0 rfl Try.underlying34 (by kernel_rfl) ?_) | (go_at_call 38; refine Calls.mono (HG.out _ HGW.out) ?_; rintro e w2 ⟨rfl, hg2⟩; have hr2 := heap_keep hg2 hr0; have hx2 := heap_keep hg2 hx0; have c1 : w2.cell? ⟨xb, 1, none⟩ = some (.int .i64 se) := cell_of_heap hx2 rfl; have c11 : w2.cell? ⟨xb, 11, none⟩ = some (.int .u64 nn) := cell_of_heap hx2 rfl))
  have hi3 := heap_alloc_new w2 (.cells #[.int .i64 0, .int .i64 se, .string { data := #[] }, .string { data := #[] }, .int .i64 0, .int .i64 0, .int .i64 0, .int .i64 0, .string { data := #[] }, .slice none 0 0, .string { data := #[] }, .int .i64 0, .slice none 0 0, .string { data := #[] }, .int .u64 nn] 76)
  have hx3 := heap_keep ((Grew.rf w2).al (.cells #[.int .i64 0, .int .i64 se, .string { data := #[] }, .string { data := #[] }, .int .i64 0, .int .i64 0, .int .i64 0, .int .i64 0, .string { data := #[] }, .slice none 0 0, .string { data := #[] }, .int .i64 0, .slice none 0 0, .string { data := #[] }, .int .u64 nn] 76)) hx2
  have hr3 := heap_keep ((Grew.rf w2).al (.cells #[.int .i64 0, .int .i64 se, .string { data := #[] }, .string { data := #[] }, .int .i64 0, .int .i64 0, .int .i64 0, .int .i64 0, .string { data := #[] }, .slice none 0 0, .string { data := #[] }, .int .i64 0, .slice none 0 0, .string { data := #[] }, .int .u64 nn] 76)) hr2
  have hg3 : Grew w (w2.alloc (.cells #[.int .i64 0, .int .i64 se, .string { data := #[] }, .string { data := #[] }, .int .i64 0, .int .i64 0, .int .i64 0, .int .i64 0, .string { data := #[] }, .slice none 0 0, .string { data := #[] }, .int .i64 0, .slice none 0 0, .string { data := #[] }, .int .u64 nn] 76)) := (HGW.out.tr hg2).al _
  have hlt : xb + 1 < w2.heap.size := (Array.getElem?_eq_some_iff.1 hr2).1
  generalize w2.alloc (.cells #[.int .i64 0, .int .i64 se, .string { data := #[] }, .string { data := #[] }, .int .i64 0, .int .i64 0, .int .i64 0, .int .i64 0, .string { data := #[] }, .slice none 0 0, .string { data := #[] }, .int .i64 0, .slice none 0 0, .string { data := #[] }, .int .u64 nn] 76) = W3 at *
  obtain ⟨ib, hib⟩ : ∃ ib, w2.heap.size = ib := ⟨_, rfl⟩
  rw [hib] at hi3 hlt ⊢
  have HR3 := Lib.hid hr3
  have HG3 := Lib.hid hg3
  have HLT := Lib.hid hlt
  clear hib hx2 hr2 c1 c11 hg2 hr0 hx0 hg3 hlt
  have c0 : W3.cell? ⟨xb, 0, none⟩ = some (.int .i64 6) := cell_of_heap hx3 rfl
  go_wp2_with (first | ((with_reducible refine gate_st 3 (.tmp 44) (.const (.int .i64 5)) rfl ?_); refine st_cell0 rfl rfl rfl rfl rfl rfl hi3 (by kernel_rfl) (by simp) ?_; intro W4 hW4 hby4; have hW4' : W4.heap[ib]? = some (.cells #[.int .i64 5, .int .i64 se, .string { data := #[] }, .string { data := #[] }, .int .i64 0, .int .i64 0, .int .i64 0, .int .i64 0, .string { data := #[] }, .slice none 0 0, .string { data := #[] }, .int .i64 0, .slice none 0 0, .string { data := #[] }, .int .u64 nn] 76) := hW4; have hr4 := by_other hby4 HR3.out (by have := HLT.out; omega)) | ((with_reducible refine gate_ld' 76 (.tmp 4) rfl ?_); refine ld_row (.inl rfl) rfl rfl hW4' rfl Try.underlying76 (by kernel_rfl) ?_) | ((with_reducible refine gate_st 76 (.tmp 2) (.tmp 45) rfl ?_); refine st_row0 rfl rfl rfl rfl rfl hr4 (by kernel_rfl) rfl (by simp [Value.oneCell']) ?_; intro W5 hW5 hby5))
  have hg4 : Grew w W4 := grown_at HG3.out hby4 (by rw [HXB.out]; have := HLT.out; omega) HG3.out.size
  have hg5 : Grew w W5 := grown_at hg4 hby5 (by rw [HXB.out]; omega) hg4.size
  refine bodyPost_ret (inp_ret rfl rfl hW5 rfl) rfl ?_
  rw [HIN.out]
  exact ⟨none, 0, 0, none, 0, 0, rfl, RdV.nil _ _ _, RdV.nil _ _ _, by omega, by omega, hg5⟩
end Go.Proofs.Ytbkcpgaicoagfaa
/- event.Input of a start, and of what is no input. Printed by wip/mkEv17.py. -/
set_option linter.unusedVariables false
set_option linter.unusedSimpArgs false
namespace Go.Proofs.Ytbkcpgaicoagfaa
open Go.RowKit

section
variable {ops : Array Oper} {rest : List Oper} {o : Oper} {a : Act} {Q : Exit → Act → World → Prop} {W : World} {K : Nat} {T : TypeId} {cs : Array Value}
/-- A struct is stored into the middle of a greater one. -/
theorem st_mid (hgd : o.guard = none) {ty : TypeId} {x y : Operand} (ho : o.op = .store ty x y) {j : Nat} {cells : Array Value} (hx : a.eval x = .pointer (some ⟨K, j, none⟩)) (hy : a.eval y = .agg cells) (hK : W.heap[K]? = some (.cells cs T))
    (hi : (Try.prog.info? ty).map (·.size) = some cells.size) (hj : j + cells.size ≤ cs.size) (h1 : cells.all (·.oneCell') = true)
    (h : ∀ W', W'.heap[K]? = some (.cells (cs.toList.take j ++ cells.toList ++ cs.toList.drop (j + cells.size)).toArray T) → W.grownBy W' (some K) → wpList Try.prog ops Q rest (a.put o.dst undef) W') : wpList Try.prog ops Q (o :: rest) a W := by
  have hrun := run_storeCells_at (P := Try.prog) K j T cells.toList 0 cs W hK (by simpa using hj) (fun x hx => Array.all_eq_true'.1 h1 x (by simpa using hx))
  refine wpList_plain hgd fun K' hK' => ?_
  unfold Oper.wp execOp
  have hst : (storeVar ty ⟨K, j, none⟩ (.agg cells)).run Try.prog W = .ok () (W.setRow K (cs.toList.take (j + 0) ++ cells.toList ++ cs.toList.drop (j + 0 + cells.toList.length)).toArray) := by
    cases hq : Try.prog.info? ty with
    | none => simp [hq] at hi
    | some i =>
      have hs : i.size = cells.size := by simpa [hq] using hi
      have hc : (Value.agg cells).cells = cells := rfl
      simpa [storeVar, sizeOf, typeInfo, hq, hc, hs] using hrun
  simp only [ho, hx, hy, Instr.storeAt, Instr.sureAddr, Sem.run_bind, Sem.run_pure, Result.andThen_ok, hst]
  refine hK' _ _ (h _ ?_ (setRow_by _ _ _))
  have := setRow_heap _ _ _ (cs.toList.take (j + 0) ++ cells.toList ++ cs.toList.drop (j + 0 + cells.toList.length)).toArray _ _ hK
  simpa using this
theorem st_mid0 (hgd : o.guard = none) (hd : o.dst = none) {ty : TypeId} {x y : Operand} (ho : o.op = .store ty x y) {j : Nat} {cells : Array Value} (hx : a.eval x = .pointer (some ⟨K, j, none⟩)) (hy : a.eval y = .agg cells) (hK : W.heap[K]? = some (.cells cs T))
    (hi : (Try.prog.info? ty).map (·.size) = some cells.size) (hj : j + cells.size ≤ cs.size) (h1 : cells.all (·.oneCell') = true)
    (h : ∀ W', W'.heap[K]? = some (.cells (cs.toList.take j ++ cells.toList ++ cs.toList.drop (j + cells.size)).toArray T) → W.grownBy W' (some K) → wpList Try.prog ops Q rest a W') : wpList Try.prog ops Q (o :: rest) a W :=
  st_mid hgd ho hx hy hK hi hj h1 (fun W' hW hb => by rw [hd]; exact h W' hW hb)
end

set_option maxRecDepth 100000 in
set_option maxHeartbeats 6400000 in
theorem input_1 (se ti : Int) (me ur : ByteArray) (hs : List Hdr) (bo : ByteArray) (st co : Int) (cr : Bool) (no : ByteArray) (nn : Int) (A : Option Addr) (n c : Nat) (w : World) (hgd : goodE ⟨1, se, ti, me, ur, hs, bo, st, co, cr, no, nn⟩ = true) (hr : RdH w A n hs) (hA : A = none → n = 0 ∧ c = 0) (hn : n ≤ 1000) : InpC ⟨1, se, ti, me, ur, hs, bo, st, co, cr, no, nn⟩ A n c w := by
  have hnn : nn = 0 := by
    have hgk : goodK ⟨1, se, ti, me, ur, hs, bo, st, co, cr, no, nn⟩ = true := by unfold goodE at hgd; exact (Bool.and_eq_true_iff.1 hgd).2
    simp [goodK] at hgk
    simp [hgk]
  subst hnn
  have hin : inE ⟨1, se, ti, me, ur, hs, bo, st, co, cr, no, 0⟩ = (⟨1, se, me, ur, co % 4, co / 4 % 4, co / 16 % 4, co / 64, no, hs, bo, 0, [], noT, 0⟩, true) := by
    unfold inE
    rw [if_neg (by rw [hgd]; simp)]
    simp

  have HIN := Lib.hid hin
  have hg := fun (u : World) (hu : Grew w u) => egood_any ⟨1, se, ti, me, ur, hs, bo, st, co, cr, no, 0⟩ A n c u (hr.keep hu) hA hn
  unfold GoodC at hg
  rw [hgd] at hg
  have HG := Lib.hid hg
  have HRQ := Lib.hid (fun (u : World) (hu : Grew w u) => request_any ⟨1, se, ti, me, ur, hs, bo, st, co, cr, no, 0⟩ A n c u (hr.keep hu) hA hn)
  clear hin hg hgd hr hA
  show Calls _ _ _ _ _
  go_enter Try.func36, Try.ntmps36
  go_upto_region 1 with fail
  have hx0 := heap_keep ((Grew.rf _).al (.cells #[.int .i64 0, .int .i64 0, .string { data := #[] }, .string { data := #[] }, .int .i64 0, .int .i64 0, .int .i64 0, .int .i64 0, .string { data := #[] }, .slice none 0 0, .string { data := #[] }, .int .i64 0, .slice none 0 0, .string { data := #[] }, .int .u64 0] 76)) (heap_alloc_new w (evO ⟨1, se, ti, me, ur, hs, bo, st, co, cr, no, 0⟩ A n c))
  have hr0 := heap_alloc_new (w.alloc (evO ⟨1, se, ti, me, ur, hs, bo, st, co, cr, no, 0⟩ A n c)) (.cells #[.int .i64 0, .int .i64 0, .string { data := #[] }, .string { data := #[] }, .int .i64 0, .int .i64 0, .int .i64 0, .int .i64 0, .string { data := #[] }, .slice none 0 0, .string { data := #[] }, .int .i64 0, .slice none 0 0, .string { data := #[] }, .int .u64 0] 76)
  have hgW : Grew w ((w.alloc (evO ⟨1, se, ti, me, ur, hs, bo, st, co, cr, no, 0⟩ A n c)).alloc (.cells #[.int .i64 0, .int .i64 0, .string { data := #[] }, .string { data := #[] }, .int .i64 0, .int .i64 0, .int .i64 0, .int .i64 0, .string { data := #[] }, .slice none 0 0, .string { data := #[] }, .int .i64 0, .slice none 0 0, .string { data := #[] }, .int .u64 0] 76)) := ((Grew.rf w).al _).al _
  rw [World.size_alloc] at hr0
  simp only [evO, evA] at hx0 hr0 hgW
  generalize (w.alloc (.cells #[.int .i64 1, .int .i64 se, .int .i64 ti, .string me, .string ur, .slice A n c, .string bo, .int .i64 st, .int .i64 co, .bool cr, .string no, .int .u64 0] 34)).alloc (.cells #[.int .i64 0, .int .i64 0, .string { data := #[] }, .string { data := #[] }, .int .i64 0, .int .i64 0, .int .i64 0, .int .i64 0, .string { data := #[] }, .slice none 0 0, .string { data := #[] }, .int .i64 0, .slice none 0 0, .string { data := #[] }, .int .u64 0] 76) = W at *
  obtain ⟨xb, hxb⟩ : ∃ xb, w.heap.size = xb := ⟨_, rfl⟩
  rw [hxb] at hx0 hr0 ⊢
  have HXB := Lib.hid hxb
  have HX0 := Lib.hid hx0
  have HR0 := Lib.hid hr0
  have HGW := Lib.hid hgW
  clear hxb hx0 hr0 hgW
  have hx0 := HX0.out
  have hr0 := HR0.out
  go_upto_region 4 with (first | ((with_reducible refine gate_ld' 34 (.tmp 1) rfl ?_); refine ld_row (.inl rfl) rfl rfl hx0 rfl Try.underlying34 (by kernel_rfl) ?_) | (go_at_call 38; refine Calls.mono (HG.out _ HGW.out) ?_; rintro e w2 ⟨rfl, hg2⟩; have hr2 := heap_keep hg2 hr0; have hx2 := heap_keep hg2 hx0; have c1 : w2.cell? ⟨xb, 1, none⟩ = some (.int .i64 se) := cell_of_heap hx2 rfl; have c11 : w2.cell? ⟨xb, 11, none⟩ = some (.int .u64 0) := cell_of_heap hx2 rfl))
  have hi3 := heap_alloc_new w2 (.cells #[.int .i64 0, .int .i64 se, .string { data := #[] }, .string { data := #[] }, .int .i64 0, .int .i64 0, .int .i64 0, .int .i64 0, .string { data := #[] }, .slice none 0 0, .string { data := #[] }, .int .i64 0, .slice none 0 0, .string { data := #[] }, .int .u64 0] 76)
  have hx3 := heap_keep ((Grew.rf w2).al (.cells #[.int .i64 0, .int .i64 se, .string { data := #[] }, .string { data := #[] }, .int .i64 0, .int .i64 0, .int .i64 0, .int .i64 0, .string { data := #[] }, .slice none 0 0, .string { data := #[] }, .int .i64 0, .slice none 0 0, .string { data := #[] }, .int .u64 0] 76)) hx2
  have hr3 := heap_keep ((Grew.rf w2).al (.cells #[.int .i64 0, .int .i64 se, .string { data := #[] }, .string { data := #[] }, .int .i64 0, .int .i64 0, .int .i64 0, .int .i64 0, .string { data := #[] }, .slice none 0 0, .string { data := #[] }, .int .i64 0, .slice none 0 0, .string { data := #[] }, .int .u64 0] 76)) hr2
  have hg3 : Grew w (w2.alloc (.cells #[.int .i64 0, .int .i64 se, .string { data := #[] }, .string { data := #[] }, .int .i64 0, .int .i64 0, .int .i64 0, .int .i64 0, .string { data := #[] }, .slice none 0 0, .string { data := #[] }, .int .i64 0, .slice none 0 0, .string { data := #[] }, .int .u64 0] 76)) := (HGW.out.tr hg2).al _
  have hlt : xb + 1 < w2.heap.size := (Array.getElem?_eq_some_iff.1 hr2).1
  generalize w2.alloc (.cells #[.int .i64 0, .int .i64 se, .string { data := #[] }, .string { data := #[] }, .int .i64 0, .int .i64 0, .int .i64 0, .int .i64 0, .string { data := #[] }, .slice none 0 0, .string { data := #[] }, .int .i64 0, .slice none 0 0, .string { data := #[] }, .int .u64 0] 76) = W3 at *
  obtain ⟨ib, hib⟩ : ∃ ib, w2.heap.size = ib := ⟨_, rfl⟩
  rw [hib] at hi3 hlt ⊢
  have HR3 := Lib.hid hr3
  have HG3 := Lib.hid hg3
  have HLT := Lib.hid hlt
  clear hib hx2 hr2 c1 c11 hg2 hr0 hx0 hg3 hlt
  have c0 : W3.cell? ⟨xb, 0, none⟩ = some (.int .i64 1) := cell_of_heap hx3 rfl
  go_wp2_with (first | ((with_reducible refine gate_ld' 34 (.tmp 1) rfl ?_); refine ld_row (.inl rfl) rfl rfl hx3 rfl Try.underlying34 (by kernel_rfl) ?_) | (go_at_call 67; refine Calls.mono (HRQ.out _ HG3.out) ?_; rintro e w4 ⟨B, rfl, hrd, hbk, hg4⟩; have hi4 := heap_keep hg4 hi3; have hr4 := heap_keep hg4 HR3.out) | ((with_reducible refine gate_st 3 (.tmp 21) (.const (.int .i64 1)) rfl ?_); refine st_cell0 rfl rfl rfl rfl rfl rfl hi4 (by kernel_rfl) (by simp) ?_; intro W4 hW4 hby4; have hW4' : W4.heap[ib]? = some (.cells #[.int .i64 1, .int .i64 se, .string { data := #[] }, .string { data := #[] }, .int .i64 0, .int .i64 0, .int .i64 0, .int .i64 0, .string { data := #[] }, .slice none 0 0, .string { data := #[] }, .int .i64 0, .slice none 0 0, .string { data := #[] }, .int .u64 0] 76) := hW4; have hr4' := by_other hby4 hr4 (by have := HLT.out; omega)) | ((with_reducible refine gate_st 72 (.tmp 22) (.tmp 20) rfl ?_); refine st_mid0 rfl rfl rfl rfl rfl hW4' (by kernel_rfl) (by simp) (by simp [Value.oneCell']) ?_; intro W5 hW5 hby5; have hW5' : W5.heap[ib]? = some (.cells #[.int .i64 1, .int .i64 se, .string me, .string ur, .int .i64 (co % 4), .int .i64 (co / 4 % 4), .int .i64 (co / 16 % 4), .int .i64 (co / 64), .string no, .slice B n n, .string bo, .int .i64 0, .slice none 0 0, .string { data := #[] }, .int .u64 0] 76) := hW5; have hr5 := by_other hby5 hr4' (by have := HLT.out; omega)) | ((with_reducible refine gate_ld' 76 (.tmp 4) rfl ?_); refine ld_row (.inl rfl) rfl rfl hW5' rfl Try.underlying76 (by kernel_rfl) ?_) | ((with_reducible refine gate_st 76 (.tmp 2) (.tmp 45) rfl ?_); refine st_row0 rfl rfl rfl rfl rfl hr5 (by kernel_rfl) rfl (by simp [Value.oneCell']) ?_; intro W6 hW6 hby6))
  have hgq : Grew w w4 := HG3.out.tr hg4
  have hle : w.heap.size ≤ ib := by rw [HXB.out]; have := HLT.out; omega
  have hg5 : Grew w W4 := grown_at hgq hby4 hle hgq.size
  have hg6 : Grew w W5 := grown_at hg5 hby5 hle hg5.size
  have hg7 : Grew w W6 := grown_at hg6 hby6 (by rw [HXB.out]; omega) hg6.size
  have hn4 := hbk.ne hi4 (by decide)
  have hn5 := hbk.ne hr4 (by decide)
  have hrd' : RdH W6 B n hs := ((hrd.by_ hby4 hn4).by_ hby5 hn4).by_ hby6 hn5
  refine bodyPost_ret (inp_ret rfl rfl hW6 rfl) rfl ?_
  rw [HIN.out]
  exact ⟨B, n, n, none, 0, 0, rfl, hrd', RdV.nil _ _ _, hn, by omega, hg7⟩

set_option maxRecDepth 100000 in
set_option maxHeartbeats 6400000 in
theorem input_no (ki se ti : Int) (me ur : ByteArray) (hs : List Hdr) (bo : ByteArray) (st co : Int) (cr : Bool) (no : ByteArray) (nn : Int) (A : Option Addr) (n c : Nat) (w : World) (h1 : ki ≠ 1) (h3 : ki ≠ 3) (h4 : ki ≠ 4) (h5 : ki ≠ 5) (h6 : ki ≠ 6) (hgd : goodE ⟨ki, se, ti, me, ur, hs, bo, st, co, cr, no, nn⟩ = true) (hr : RdH w A n hs) (hA : A = none → n = 0 ∧ c = 0) (hn : n ≤ 1000) : InpC ⟨ki, se, ti, me, ur, hs, bo, st, co, cr, no, nn⟩ A n c w := by
  have hin : inE ⟨ki, se, ti, me, ur, hs, bo, st, co, cr, no, nn⟩ = (inZ, false) := by
    unfold inE
    rw [if_neg (by rw [hgd]; simp)]
    simp [h1, h3, h4, h5, h6]
  have b1 : (ki == 1) = false := by simpa using h1
  have b3 : (ki == 3) = false := by simpa using h3
  have b4 : (ki == 4) = false := by simpa using h4
  have b5 : (ki == 5) = false := by simpa using h5
  have b6 : (ki == 6) = false := by simpa using h6
  have d1 : decide (ki = 1) = false := by simpa using h1
  have d3 : decide (ki = 3) = false := by simpa using h3
  have d4 : decide (ki = 4) = false := by simpa using h4
  have d5 : decide (ki = 5) = false := by simpa using h5
  have d6 : decide (ki = 6) = false := by simpa using h6
  clear h1 h3 h4 h5 h6
  have HIN := Lib.hid hin
  have hg := fun (u : World) (hu : Grew w u) => egood_any ⟨ki, se, ti, me, ur, hs, bo, st, co, cr, no, nn⟩ A n c u (hr.keep hu) hA hn
  unfold GoodC at hg
  rw [hgd] at hg
  have HG := Lib.hid hg
  clear hin hg hgd hr hA
  show Calls _ _ _ _ _
  go_enter Try.func36, Try.ntmps36
  go_upto_region 1 with fail
  have hx0 := heap_keep ((Grew.rf _).al (.cells #[.int .i64 0, .int .i64 0, .string { data := #[] }, .string { data := #[] }, .int .i64 0, .int .i64 0, .int .i64 0, .int .i64 0, .string { data := #[] }, .slice none 0 0, .string { data := #[] }, .int .i64 0, .slice none 0 0, .string { data := #[] }, .int .u64 0] 76)) (heap_alloc_new w (evO ⟨ki, se, ti, me, ur, hs, bo, st, co, cr, no, nn⟩ A n c))
  have hr0 := heap_alloc_new (w.alloc (evO ⟨ki, se, ti, me, ur, hs, bo, st, co, cr, no, nn⟩ A n c)) (.cells #[.int .i64 0, .int .i64 0, .string { data := #[] }, .string { data := #[] }, .int .i64 0, .int .i64 0, .int .i64 0, .int .i64 0, .string { data := #[] }, .slice none 0 0, .string { data := #[] }, .int .i64 0, .slice none 0 0, .string { data := #[] }, .int .u64 0] 76)
  have hgW : Grew w ((w.alloc (evO ⟨ki, se, ti, me, ur, hs, bo, st, co, cr, no, nn⟩ A n c)).alloc (.cells #[.int .i64 0, .int .i64 0, .string { data := #[] }, .string { data := #[] }, .int .i64 0, .int .i64 0, .int .i64 0, .int .i64 0, .string { data := #[] }, .slice none 0 0, .string { data := #[] }, .int .i64 0, .slice none 0 0, .string { data := #[] }, .int .u64 0] 76)) := ((Grew.rf w).al _).al _
  rw [World.size_alloc] at hr0
  simp only [evO, evA] at hx0 hr0 hgW
  generalize (w.alloc (.cells #[.int .i64 ki, .int .i64 se, .int .i64 ti, .string me, .string ur, .slice A n c, .string bo, .int .i64 st, .int .i64 co, .bool cr, .string no, .int .u64 nn] 34)).alloc (.cells #[.int .i64 0, .int .i64 0, .string { data := #[] }, .string { data := #[] }, .int .i64 0, .int .i64 0, .int .i64 0, .int .i64 0, .string { data := #[] }, .slice none 0 0, .string { data := #[] }, .int .i64 0, .slice none 0 0, .string { data := #[] }, .int .u64 0] 76) = W at *
  obtain ⟨xb, hxb⟩ : ∃ xb, w.heap.size = xb := ⟨_, rfl⟩
  rw [hxb] at hx0 hr0 ⊢
  have HXB := Lib.hid hxb
  have HX0 := Lib.hid hx0
  have HR0 := Lib.hid hr0
  have HGW := Lib.hid hgW
  clear hxb hx0 hr0 hgW
  have hx0 := HX0.out
  have hr0 := HR0.out
  go_upto_region 4 with (first | ((with_reducible refine gate_ld' 34 (.tmp 1) rfl ?_); refine ld_row (.inl rfl) rfl rfl hx0 rfl Try.underlying34 (by kernel_rfl) ?_) | (go_at_call 38; refine Calls.mono (HG.out _ HGW.out) ?_; rintro e w2 ⟨rfl, hg2⟩; have hr2 := heap_keep hg2 hr0; have hx2 := heap_keep hg2 hx0; have c1 : w2.cell? ⟨xb, 1, none⟩ = some (.int .i64 se) := cell_of_heap hx2 rfl; have c11 : w2.cell? ⟨xb, 11, none⟩ = some (.int .u64 nn) := cell_of_heap hx2 rfl))
  have hi3 := heap_alloc_new w2 (.cells #[.int .i64 0, .int .i64 se, .string { data := #[] }, .string { data := #[] }, .int .i64 0, .int .i64 0, .int .i64 0, .int .i64 0, .string { data := #[] }, .slice none 0 0, .string { data := #[] }, .int .i64 0, .slice none 0 0, .string { data := #[] }, .int .u64 nn] 76)
  have hx3 := heap_keep ((Grew.rf w2).al (.cells #[.int .i64 0, .int .i64 se, .string { data := #[] }, .string { data := #[] }, .int .i64 0, .int .i64 0, .int .i64 0, .int .i64 0, .string { data := #[] }, .slice none 0 0, .string { data := #[] }, .int .i64 0, .slice none 0 0, .string { data := #[] }, .int .u64 nn] 76)) hx2
  have hr3 := heap_keep ((Grew.rf w2).al (.cells #[.int .i64 0, .int .i64 se, .string { data := #[] }, .string { data := #[] }, .int .i64 0, .int .i64 0, .int .i64 0, .int .i64 0, .string { data := #[] }, .slice none 0 0, .string { data := #[] }, .int .i64 0, .slice none 0 0, .string { data := #[] }, .int .u64 nn] 76)) hr2
  have hg3 : Grew w (w2.alloc (.cells #[.int .i64 0, .int .i64 se, .string { data := #[] }, .string { data := #[] }, .int .i64 0, .int .i64 0, .int .i64 0, .int .i64 0, .string { data := #[] }, .slice none 0 0, .string { data := #[] }, .int .i64 0, .slice none 0 0, .string { data := #[] }, .int .u64 nn] 76)) := (HGW.out.tr hg2).al _
  have hlt : xb + 1 < w2.heap.size := (Array.getElem?_eq_some_iff.1 hr2).1
  generalize w2.alloc (.cells #[.int .i64 0, .int .i64 se, .string { data := #[] }, .string { data := #[] }, .int .i64 0, .int .i64 0, .int .i64 0, .int .i64 0, .string { data := #[] }, .slice none 0 0, .string { data := #[] }, .int .i64 0, .slice none 0 0, .string { data := #[] }, .int .u64 nn] 76) = W3 at *
  obtain ⟨ib, hib⟩ : ∃ ib, w2.heap.size = ib := ⟨_, rfl⟩
  rw [hib] at hi3 hlt ⊢
  have HR3 := Lib.hid hr3
  have HG3 := Lib.hid hg3
  have HLT := Lib.hid hlt
  clear hib hx2 hr2 c1 c11 hg2 hr0 hx0 hg3 hlt
  have c0 : W3.cell? ⟨xb, 0, none⟩ = some (.int .i64 ki) := cell_of_heap hx3 rfl
  have hr3 := HR3.out
  go_wp2_with (first | ((with_reducible refine gate_st 76 (.tmp 2) (.tmp 16) rfl ?_); refine st_row0 rfl rfl rfl rfl rfl hr3 (by kernel_rfl) rfl (by simp [Value.oneCell']) ?_; intro W5 hW5 hby5))
  have hg5 : Grew w W5 := grown_at HG3.out hby5 (by rw [HXB.out]; omega) HG3.out.size
  refine bodyPost_ret (inp_ret rfl rfl hW5 rfl) rfl ?_
  rw [HIN.out]
  exact ⟨none, 0, 0, none, 0, 0, rfl, RdV.nil _ _ _, RdV.nil _ _ _, by omega, by omega, hg5⟩
end Go.Proofs.Ytbkcpgaicoagfaa
/- As region_twok; at the end the facts of the operations without a slot are told too. -/
set_option linter.unusedVariables false
set_option linter.unusedSimpArgs false
namespace Go.Proofs.Ytbkcpgaicoagfaa
open Go

theorem region_twoka {ops : List Oper} {Q : Exit → Act → World → Prop} {a0 : Act} {id : Nat} {w : World} {G1 G2 : World → World → Prop} {X1 X2 B : World → Prop} {c12 c21 : Bool} (k1 k2 : Nat) (hS : TwoK c12 c21 G1 G2 X1 X2 B) (hB : B w) (h1 : X1 w) (h2 : X2 w) (KP : List (Nat × Nat))
    (D : List (List (Nat × Tmp))) (E : List (Nat × Tmp)) (F : Nat → Px G1 G2)
    (hcl : ((List.range ops.length).all fun i => ((F i).s1 || Nat.beq i k1 || reachB D 5 i k1 || (KP.any fun p => Nat.beq p.1 k1 && Nat.beq p.2 i)) && ((F i).s2 || Nat.beq i k2 || reachB D 5 i k2 || (KP.any fun p => Nat.beq p.1 k2 && Nat.beq p.2 i))) = true)
    (hkk : (killOk D KP && (c12 || reachB D 5 k2 k1) && (c21 || reachB D 5 k1 k2)) = true)
    (hok : (regionOk ops.toArray a0.tmps.size (D.map (·.map (·.1))).toArray && pairsOk ops.toArray D && decide (pairsOf ops.toArray (List.range ops.length) = E)) = true)
    (hsteps : StepsOkk (fun i => (F i).p) B (Gx k1 k2 G1 G2) (Xx k1 k2 X1 X2) Try.prog ops.toArray a0 ops D 0)
    (hend : ∀ u, B u → (∀ i, i < ops.length → ∃ v, liveF (fun i => (F i).p) KP i v u) → StepGoal (liveF (fun i => (F i).p) KP) u (fun a => Q .normal a u) E a0) :
    (Code.region id ops.toArray true).wp Try.prog Q a0 w := by
  have hdr : Grew w w.drew := (Grew.rf w).dr
  simp only [Bool.and_eq_true] at hkk
  obtain ⟨⟨hkl, hc1⟩, hc2⟩ := hkk
  have hc : ∀ i, i < ops.length → ((F i).s1 = true ∨ i = k1 ∨ UpA (D.map (·.map (·.1))).toArray i k1 ∨ killB KP k1 i = true) ∧ ((F i).s2 = true ∨ i = k2 ∨ UpA (D.map (·.map (·.1))).toArray i k2 ∨ killB KP k2 i = true) := fun i hi => by
    have := (List.all_eq_true.1 hcl) i (List.mem_range.2 hi)
    rw [Bool.and_eq_true, Bool.or_eq_true, Bool.or_eq_true, Bool.or_eq_true, Bool.or_eq_true, Bool.or_eq_true, Bool.or_eq_true] at this
    obtain ⟨h1, h2⟩ := this
    refine ⟨?_, ?_⟩
    · rcases h1 with ((h | h) | h) | h
      · exact .inl h
      · exact .inr (.inl (nbeq h))
      · exact .inr (.inr (.inl (reachB_up _ h)))
      · exact .inr (.inr (.inr h))
    · rcases h2 with ((h | h) | h) | h
      · exact .inl h
      · exact .inr (.inl (nbeq h))
      · exact .inr (.inr (.inl (reachB_up _ h)))
      · exact .inr (.inr (.inr h))
  have hcc : (c12 = true ∨ UpA (D.map (·.map (·.1))).toArray k2 k1) ∧ (c21 = true ∨ UpA (D.map (·.map (·.1))).toArray k1 k2) := by
    rw [Bool.or_eq_true] at hc1 hc2
    exact ⟨hc1.imp (fun h => h) (reachB_up _), hc2.imp (fun h => h) (reachB_up _)⟩
  refine region_kill D E (fun i => (F i).p) B (Gx k1 k2 G1 G2) (Xx k1 k2 X1 X2) KP follows hok hkl ?_ ?_ ?_ (hS.b0 _ _ hB hdr) ?_ hsteps hend
  · intro i j v u u' hi hj hne hna hkf hf hg
    obtain ⟨hc1, hc2⟩ := hc i hi
    rw [Gx_eq] at hg
    by_cases e1 : j = k1
    · rw [if_pos e1] at hg
      subst e1
      rcases hc1 with h | h | h | h
      · exact (F i).m1 h _ _ _ hf hg
      · exact absurd h.symm hne
      · exact absurd h hna
      · rw [hkf] at h; cases h
    · rw [if_neg e1] at hg
      by_cases e2 : j = k2
      · rw [if_pos e2] at hg
        subst e2
        rcases hc2 with h | h | h | h
        · exact (F i).m2 h _ _ _ hf hg
        · exact absurd h.symm hne
        · exact absurd h hna
        · rw [hkf] at h; cases h
      · rw [if_neg e2] at hg
        exact (F i).m0 _ _ _ hf hg
  · intro j u u' hj hb hg
    rw [Gx_eq] at hg
    split at hg
    · exact hS.b1 _ _ hb hg
    · split at hg
      · exact hS.b2 _ _ hb hg
      · exact hS.b0 _ _ hb hg
  · intro i j u u' hi hj hne hna hx hg
    rw [Xx_eq] at hx ⊢
    rw [Gx_eq] at hg
    by_cases e1 : i = k1
    · rw [if_pos e1] at hx ⊢
      rw [if_neg (by omega)] at hg
      split at hg
      · rename_i e2
        rcases hcc.1 with h | h
        · exact hS.x12 h _ _ hx hg
        · rw [e2, e1] at hna; exact absurd h hna
      · exact hS.x10 _ _ hx hg
    · rw [if_neg e1] at hx ⊢
      by_cases e2 : i = k2
      · rw [if_pos e2] at hx ⊢
        split at hg
        · rename_i e1'
          rcases hcc.2 with h | h
          · exact hS.x21 h _ _ hx hg
          · rw [e1', e2] at hna; exact absurd h hna
        · rw [if_neg (by omega)] at hg
          exact hS.x20 _ _ hx hg
      · rw [if_neg e2]; trivial
  · intro i
    rw [Xx_eq]
    split
    · exact hS.x10 _ _ h1 hdr
    · split
      · exact hS.x20 _ _ h2 hdr
      · trivial
end Go.Proofs.Ytbkcpgaicoagfaa
