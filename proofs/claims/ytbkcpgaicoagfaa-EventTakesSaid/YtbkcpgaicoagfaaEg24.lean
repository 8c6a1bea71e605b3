/- sized. -/
import Derived.Test.YtbkcpgaicoagfaaEg21
import Derived.Test.YtbkcpgaicoagfaaEg23
set_option linter.unusedVariables false
set_option linter.unusedSimpArgs false
namespace Go.Proofs.Ytbkcpgaicoagfaa
open Go.RowKit

def sizedB (x : Ev) : Bool := decide (x.me.size ≤ 512 ∧ x.no.size ≤ 512 ∧ x.ur.size ≤ 2048 ∧ x.bo.size ≤ 2048 ∧ x.hs.length ≤ 25) && (!x.hs.any bigH && decide (0 ≤ x.se ∧ x.se ≤ 1048576 ∧ 0 ≤ x.ti ∧ x.ti ≤ 1099511627776))
set_option maxRecDepth 100000 in
set_option maxHeartbeats 3200000 in
theorem sized_any (x : Ev) (A : Option Addr) (n c : Nat) (w : World) (hr : RdH w A n x.hs) (hn : n ≤ 9223372036854775807) :
    Calls Try.prog 70 #[evV x A n c] w fun e w' => e = .returned (.bool (sizedB x)) ∧ Grew w w' := by
  obtain ⟨ki, se, ti, me, ur, hs, bo, st, co, cr, no, nn⟩ := x
  dsimp only at hr
  have hco := fun (u : World) (hu : Grew w u) => contH_any A n c hs 77 #[] bigH u (fun args w => rfl) (hr.keep hu) hn (bigH_any u)
  have HL := Lib.hid hr.lenH
  have HD : RowKit.Hid (sizedB ⟨ki, se, ti, me, ur, hs, bo, st, co, cr, no, nn⟩ = (decide (me.size ≤ 512 ∧ no.size ≤ 512 ∧ ur.size ≤ 2048 ∧ bo.size ≤ 2048 ∧ hs.length ≤ 25) && (!hs.any bigH && decide (0 ≤ se ∧ se ≤ 1048576 ∧ 0 ≤ ti ∧ ti ≤ 1099511627776)))) := rfl
  generalize hs.any bigH = ab at hco HD
  have HCO := Lib.hid hco
  clear hco hr
  rw [HL.out] at HD
  cases ab <;> (
  go_enter Try.func70, Try.ntmps70
  go_wp2_with (go_at_call 76; refine Calls.mono (HCO.out _ ((Grew.rf w).al _)) ?_; rintro e w2 ⟨rfl, hg2⟩; have hp2 := heap_keep hg2 (heap_alloc_new w (evO ⟨ki, se, ti, me, ur, hs, bo, st, co, cr, no, nn⟩ A n c)); have c1 : w2.cell? ⟨w.heap.size, 1, none⟩ = some (.int .i64 se) := cell_of_heap hp2 rfl; have c2 : w2.cell? ⟨w.heap.size, 2, none⟩ = some (.int .i64 ti) := cell_of_heap hp2 rfl; clear hp2)
  all_goals
    go_ret
    first
    | refine ⟨congrArg (fun b => Ending.returned (Value.bool b)) ?_, ((Grew.rf w).al _).tr hg2⟩
    | refine ⟨congrArg (fun b => Ending.returned (Value.bool b)) ?_, (Grew.rf w).al _⟩
    rw [HD.out]
    clear HL HCO HD
    first
    | (simp [*]; done)
    | (simp at *; omega)
    | (simp; omega)
    | (rw [Bool.eq_iff_iff]; simp; omega))
end Go.Proofs.Ytbkcpgaicoagfaa
/- event.Good. Printed by wip/mkEv10.py. -/
set_option linter.unusedVariables false
set_option linter.unusedSimpArgs false
namespace Go.Proofs.Ytbkcpgaicoagfaa
open Go.RowKit

theorem bare_b (x : Ev) (A : Option Addr) (n c : Nat) (y : Ev) (B : Option Addr) (m d : Nat) (w : World) (hA : RdH w A n x.hs) (hB : RdH w B m y.hs) (hn : n ≤ 9223372036854775807) (hm : m ≤ 9223372036854775807) (b : Bool) (hb : sameE x { y with ki := x.ki, se := x.se, ti := x.ti } = b) :
    Calls Try.prog 71 #[evV x A n c, evV y B m d] w fun e w' => e = .returned (.bool b) ∧ Grew w w' := by
  subst hb
  exact bare_any x A n c y B m d w hA hB hn hm
abbrev noT : ByteArray := { data := #[] }
/-- What an event may hold, by its kind. -/
def goodK (x : Ev) : Bool :=
  if x.ki = 1 then decide (x.st = 0 ∧ x.cr = false ∧ x.nn = 0) && modesB x.co
  else if x.ki = 2 then decide (x.st = 0 ∧ x.no = noT) && decide (1 ≤ x.co ∧ x.co ≤ 2)
  else if x.ki = 3 then decide (x.me = noT ∧ x.ur = noT ∧ x.co = 0 ∧ x.cr = false ∧ x.no = noT ∧ x.nn = 0) && decide (100 ≤ x.st ∧ x.st ≤ 599)
  else if x.ki = 4 then decide (x.me = noT ∧ x.ur = noT ∧ x.hs = [] ∧ x.bo = noT ∧ x.st = 0 ∧ x.co = 0 ∧ x.cr = false ∧ x.no = noT ∧ x.nn = 0)
  else if x.ki = 5 then decide (x.me = noT ∧ x.ur = noT ∧ x.hs = [] ∧ x.bo = noT ∧ x.st = 0 ∧ x.co = 0 ∧ x.cr = false ∧ x.no = noT) && (decide (x.nn ≤ 1099511627776) && decide (x.se = 0))
  else if x.ki = 6 then decide (x.me = noT ∧ x.ur = noT ∧ x.hs = [] ∧ x.bo = noT ∧ x.st = 0 ∧ x.co = 0 ∧ x.cr = false ∧ x.no = noT)
  else if x.ki = 7 then decide (x.me = noT ∧ x.ur = noT ∧ x.hs = [] ∧ x.bo = noT ∧ x.cr = false ∧ x.no = noT ∧ x.nn = 0) && (decide (1 ≤ x.co ∧ x.co ≤ 16) && decide (0 ≤ x.st ∧ x.st ≤ 599))
  else false
def goodE (x : Ev) : Bool := sizedB x && goodK x
/-- Good's contract at one event. -/
abbrev GoodC (x : Ev) (A : Option Addr) (n c : Nat) (w : World) : Prop := Calls Try.prog 38 #[evV x A n c] w fun e w' => e = .returned (.bool (goodE x)) ∧ Grew w w'

set_option maxRecDepth 100000 in
set_option maxHeartbeats 6400000 in
theorem good_un (ki se ti : Int) (me ur : ByteArray) (hs : List Hdr) (bo : ByteArray) (st co : Int) (cr : Bool) (no : ByteArray) (nn : Int) (A : Option Addr) (n c : Nat) (w : World) (hsz : sizedB ⟨ki, se, ti, me, ur, hs, bo, st, co, cr, no, nn⟩ = false) (hr : RdH w A n hs) (hA : A = none → n = 0 ∧ c = 0) (hn : n ≤ 1000) : GoodC ⟨ki, se, ti, me, ur, hs, bo, st, co, cr, no, nn⟩ A n c w := by
  have hg : goodE ⟨ki, se, ti, me, ur, hs, bo, st, co, cr, no, nn⟩ = false := by
    unfold goodE
    rw [hsz]
    rfl
  have HG := Lib.hid hg
  have hsd := fun (u : World) (hu : Grew w u) => sized_any ⟨ki, se, ti, me, ur, hs, bo, st, co, cr, no, nn⟩ A n c u (hr.keep hu) (by omega)
  rw [hsz] at hsd
  have HSD := Lib.hid hsd
  have HR := Lib.hid hr
  have HAN := Lib.hid hA
  clear hg hsd hsz hr hA
  show Calls _ _ _ _ _
  go_enter Try.func38, Try.ntmps38
  go_wp2_with (go_at_call 70; refine Calls.mono (HSD.out _ ((Grew.rf w).al _)) ?_; rintro e w2 ⟨rfl, hg2⟩)
  go_ret
  exact ⟨by rw [HG.out]; rfl, ((Grew.rf w).al _).tr hg2⟩
set_option maxRecDepth 100000 in
set_option maxHeartbeats 6400000 in
theorem good_no (ki se ti : Int) (me ur : ByteArray) (hs : List Hdr) (bo : ByteArray) (st co : Int) (cr : Bool) (no : ByteArray) (nn : Int) (A : Option Addr) (n c : Nat) (w : World) (h1 : ki ≠ 1) (h2 : ki ≠ 2) (h3 : ki ≠ 3) (h4 : ki ≠ 4) (h5 : ki ≠ 5) (h6 : ki ≠ 6) (h7 : ki ≠ 7) (hsz : sizedB ⟨ki, se, ti, me, ur, hs, bo, st, co, cr, no, nn⟩ = true) (hr : RdH w A n hs) (hA : A = none → n = 0 ∧ c = 0) (hn : n ≤ 1000) : GoodC ⟨ki, se, ti, me, ur, hs, bo, st, co, cr, no, nn⟩ A n c w := by
  have hg : goodE ⟨ki, se, ti, me, ur, hs, bo, st, co, cr, no, nn⟩ = false := by
    unfold goodE
    rw [hsz]
    simp [goodK, h1, h2, h3, h4, h5, h6, h7]
  have HG := Lib.hid hg
  have hsd := fun (u : World) (hu : Grew w u) => sized_any ⟨ki, se, ti, me, ur, hs, bo, st, co, cr, no, nn⟩ A n c u (hr.keep hu) (by omega)
  rw [hsz] at hsd
  have HSD := Lib.hid hsd
  have HR := Lib.hid hr
  have HAN := Lib.hid hA
  clear hg hsd hsz hr hA
  show Calls _ _ _ _ _
  go_enter Try.func38, Try.ntmps38
  go_upto_region 4 with (go_at_call 70; refine Calls.mono (HSD.out _ ((Grew.rf w).al _)) ?_; rintro e w2 ⟨rfl, hg2⟩; have hp2 := heap_keep hg2 (heap_alloc_new w (evO ⟨ki, se, ti, me, ur, hs, bo, st, co, cr, no, nn⟩ A n c)); have c5 : w2.cell? ⟨w.heap.size, 5, none⟩ = some (.slice A n c) := cell_of_heap hp2 rfl; have c6 : w2.cell? ⟨w.heap.size, 6, none⟩ = some (.string bo) := cell_of_heap hp2 rfl)
  have hq0 := heap_keep ((Grew.rf _).al (.cells #[.int .i64 0, .int .i64 0, .int .i64 0, .string { data := #[] }, .string { data := #[] }, .slice A n c, .string bo, .int .i64 0, .int .i64 0, .bool false, .string { data := #[] }, .int .u64 0] 34)) hp2
  have hq1 := heap_alloc_new w2 (.cells #[.int .i64 0, .int .i64 0, .int .i64 0, .string { data := #[] }, .string { data := #[] }, .slice A n c, .string bo, .int .i64 0, .int .i64 0, .bool false, .string { data := #[] }, .int .u64 0] 34)
  have hgW : Grew w (w2.alloc (.cells #[.int .i64 0, .int .i64 0, .int .i64 0, .string { data := #[] }, .string { data := #[] }, .slice A n c, .string bo, .int .i64 0, .int .i64 0, .bool false, .string { data := #[] }, .int .u64 0] 34)) := (((Grew.rf w).al _).tr hg2).al _
  have hlt : w.heap.size < w2.heap.size := by have := hg2.size; rw [World.size_alloc] at this; omega
  clear hp2 c5 c6 hg2
  generalize w2.alloc (.cells #[.int .i64 0, .int .i64 0, .int .i64 0, .string { data := #[] }, .string { data := #[] }, .slice A n c, .string bo, .int .i64 0, .int .i64 0, .bool false, .string { data := #[] }, .int .u64 0] 34) = W at *
  obtain ⟨hb, hhb⟩ : ∃ hb, w.heap.size = hb := ⟨_, rfl⟩
  obtain ⟨kb, hkb⟩ : ∃ kb, w2.heap.size = kb := ⟨_, rfl⟩
  rw [hhb] at hq0 hlt ⊢
  rw [hkb] at hq1 hlt ⊢
  have HHB := Lib.hid hhb
  have HLT := Lib.hid hlt
  have HQ0 : RowKit.Hid (W.heap[hb]? = some (.cells #[.int .i64 ki, .int .i64 se, .int .i64 ti, .string me, .string ur, .slice A n c, .string bo, .int .i64 st, .int .i64 co, .bool cr, .string no, .int .u64 nn] 34)) := hq0
  have HQ1 : RowKit.Hid (W.heap[kb]? = some (.cells #[.int .i64 0, .int .i64 0, .int .i64 0, .string { data := #[] }, .string { data := #[] }, .slice A n c, .string bo, .int .i64 0, .int .i64 0, .bool false, .string { data := #[] }, .int .u64 0] 34)) := hq1
  have HGW := Lib.hid hgW
  clear hhb hkb hlt hq0 hq1 hgW
  have c0 : W.cell? ⟨hb, 0, none⟩ = some (.int .i64 ki) := cell_of_heap HQ0.out rfl
  have d1 : (ki == 1) = false := by simpa using h1
  have dd1 : decide (ki = 1) = false := by simpa using h1
  have d2 : (ki == 2) = false := by simpa using h2
  have dd2 : decide (ki = 2) = false := by simpa using h2
  have d3 : (ki == 3) = false := by simpa using h3
  have dd3 : decide (ki = 3) = false := by simpa using h3
  have d4 : (ki == 4) = false := by simpa using h4
  have dd4 : decide (ki = 4) = false := by simpa using h4
  have d5 : (ki == 5) = false := by simpa using h5
  have dd5 : decide (ki = 5) = false := by simpa using h5
  have d6 : (ki == 6) = false := by simpa using h6
  have dd6 : decide (ki = 6) = false := by simpa using h6
  have d7 : (ki == 7) = false := by simpa using h7
  have dd7 : decide (ki = 7) = false := by simpa using h7
  go_wp2
  go_ret
  exact ⟨by rw [HG.out]; rfl, HGW.out⟩
set_option maxRecDepth 100000 in
set_option maxHeartbeats 6400000 in
theorem good_4 (se ti : Int) (me ur : ByteArray) (hs : List Hdr) (bo : ByteArray) (st co : Int) (cr : Bool) (no : ByteArray) (nn : Int) (A : Option Addr) (n c : Nat) (w : World) (hsz : sizedB ⟨4, se, ti, me, ur, hs, bo, st, co, cr, no, nn⟩ = true) (hr : RdH w A n hs) (hA : A = none → n = 0 ∧ c = 0) (hn : n ≤ 1000) : GoodC ⟨4, se, ti, me, ur, hs, bo, st, co, cr, no, nn⟩ A n c w := by
  have hg : goodE ⟨4, se, ti, me, ur, hs, bo, st, co, cr, no, nn⟩ = decide (me = noT ∧ ur = noT ∧ hs = [] ∧ bo = noT ∧ st = 0 ∧ co = 0 ∧ cr = false ∧ no = noT ∧ nn = 0) := by
    unfold goodE
    rw [hsz]
    rfl
  have HG := Lib.hid hg
  have hsd := fun (u : World) (hu : Grew w u) => sized_any ⟨4, se, ti, me, ur, hs, bo, st, co, cr, no, nn⟩ A n c u (hr.keep hu) (by omega)
  rw [hsz] at hsd
  have HSD := Lib.hid hsd
  have HR := Lib.hid hr
  have HAN := Lib.hid hA
  clear hg hsd hsz hr hA
  show Calls _ _ _ _ _
  go_enter Try.func38, Try.ntmps38
  go_upto_region 4 with (go_at_call 70; refine Calls.mono (HSD.out _ ((Grew.rf w).al _)) ?_; rintro e w2 ⟨rfl, hg2⟩; have hp2 := heap_keep hg2 (heap_alloc_new w (evO ⟨4, se, ti, me, ur, hs, bo, st, co, cr, no, nn⟩ A n c)); have c5 : w2.cell? ⟨w.heap.size, 5, none⟩ = some (.slice A n c) := cell_of_heap hp2 rfl; have c6 : w2.cell? ⟨w.heap.size, 6, none⟩ = some (.string bo) := cell_of_heap hp2 rfl)
  have hq0 := heap_keep ((Grew.rf _).al (.cells #[.int .i64 0, .int .i64 0, .int .i64 0, .string { data := #[] }, .string { data := #[] }, .slice A n c, .string bo, .int .i64 0, .int .i64 0, .bool false, .string { data := #[] }, .int .u64 0] 34)) hp2
  have hq1 := heap_alloc_new w2 (.cells #[.int .i64 0, .int .i64 0, .int .i64 0, .string { data := #[] }, .string { data := #[] }, .slice A n c, .string bo, .int .i64 0, .int .i64 0, .bool false, .string { data := #[] }, .int .u64 0] 34)
  have hgW : Grew w (w2.alloc (.cells #[.int .i64 0, .int .i64 0, .int .i64 0, .string { data := #[] }, .string { data := #[] }, .slice A n c, .string bo, .int .i64 0, .int .i64 0, .bool false, .string { data := #[] }, .int .u64 0] 34)) := (((Grew.rf w).al _).tr hg2).al _
  have hlt : w.heap.size < w2.heap.size := by have := hg2.size; rw [World.size_alloc] at this; omega
  clear hp2 c5 c6 hg2
  generalize w2.alloc (.cells #[.int .i64 0, .int .i64 0, .int .i64 0, .string { data := #[] }, .string { data := #[] }, .slice A n c, .string bo, .int .i64 0, .int .i64 0, .bool false, .string { data := #[] }, .int .u64 0] 34) = W at *
  obtain ⟨hb, hhb⟩ : ∃ hb, w.heap.size = hb := ⟨_, rfl⟩
  obtain ⟨kb, hkb⟩ : ∃ kb, w2.heap.size = kb := ⟨_, rfl⟩
  rw [hhb] at hq0 hlt ⊢
  rw [hkb] at hq1 hlt ⊢
  have HHB := Lib.hid hhb
  have HLT := Lib.hid hlt
  have HQ0 : RowKit.Hid (W.heap[hb]? = some (.cells #[.int .i64 4, .int .i64 se, .int .i64 ti, .string me, .string ur, .slice A n c, .string bo, .int .i64 st, .int .i64 co, .bool cr, .string no, .int .u64 nn] 34)) := hq0
  have HQ1 : RowKit.Hid (W.heap[kb]? = some (.cells #[.int .i64 0, .int .i64 0, .int .i64 0, .string { data := #[] }, .string { data := #[] }, .slice A n c, .string bo, .int .i64 0, .int .i64 0, .bool false, .string { data := #[] }, .int .u64 0] 34)) := hq1
  have HGW := Lib.hid hgW
  clear hhb hkb hlt hq0 hq1 hgW
  have c0 : W.cell? ⟨hb, 0, none⟩ = some (.int .i64 4) := cell_of_heap HQ0.out rfl
  have hba := bare_b ⟨4, se, ti, me, ur, hs, bo, st, co, cr, no, nn⟩ A n c ⟨0, 0, 0, noT, noT, [], noT, 0, 0, false, noT, 0⟩ none 0 0 W (HR.out.keep HGW.out) (RdV.nil _ _ _) (by omega) (by omega) (decide (me = noT ∧ ur = noT ∧ hs = [] ∧ bo = noT ∧ st = 0 ∧ co = 0 ∧ cr = false ∧ no = noT ∧ nn = 0)) (by simp [sameE])
  have HBA := Lib.hid hba
  clear hba
  have hq0 := HQ0.out
  generalize decide (me = noT ∧ ur = noT ∧ hs = [] ∧ bo = noT ∧ st = 0 ∧ co = 0 ∧ cr = false ∧ no = noT ∧ nn = 0) = bb at HBA HG
  go_wp2_with (first | (refine ld_row (.inl rfl) rfl rfl hq0 rfl Try.underlying34 (by kernel_rfl) ?_) | (go_at_call 71; refine Calls.mono HBA.out ?_; rintro e w3 ⟨rfl, hg3⟩))
  go_ret
  exact ⟨by rw [HG.out]; rfl, HGW.out.tr hg3⟩
set_option maxRecDepth 100000 in
set_option maxHeartbeats 6400000 in
theorem good_6 (se ti : Int) (me ur : ByteArray) (hs : List Hdr) (bo : ByteArray) (st co : Int) (cr : Bool) (no : ByteArray) (nn : Int) (A : Option Addr) (n c : Nat) (w : World) (hsz : sizedB ⟨6, se, ti, me, ur, hs, bo, st, co, cr, no, nn⟩ = true) (hr : RdH w A n hs) (hA : A = none → n = 0 ∧ c = 0) (hn : n ≤ 1000) : GoodC ⟨6, se, ti, me, ur, hs, bo, st, co, cr, no, nn⟩ A n c w := by
  have hg : goodE ⟨6, se, ti, me, ur, hs, bo, st, co, cr, no, nn⟩ = decide (me = noT ∧ ur = noT ∧ hs = [] ∧ bo = noT ∧ st = 0 ∧ co = 0 ∧ cr = false ∧ no = noT) := by
    unfold goodE
    rw [hsz]
    rfl
  have HG := Lib.hid hg
  have hsd := fun (u : World) (hu : Grew w u) => sized_any ⟨6, se, ti, me, ur, hs, bo, st, co, cr, no, nn⟩ A n c u (hr.keep hu) (by omega)
  rw [hsz] at hsd
  have HSD := Lib.hid hsd
  have HR := Lib.hid hr
  have HAN := Lib.hid hA
  clear hg hsd hsz hr hA
  show Calls _ _ _ _ _
  go_enter Try.func38, Try.ntmps38
  go_upto_region 4 with (go_at_call 70; refine Calls.mono (HSD.out _ ((Grew.rf w).al _)) ?_; rintro e w2 ⟨rfl, hg2⟩; have hp2 := heap_keep hg2 (heap_alloc_new w (evO ⟨6, se, ti, me, ur, hs, bo, st, co, cr, no, nn⟩ A n c)); have c5 : w2.cell? ⟨w.heap.size, 5, none⟩ = some (.slice A n c) := cell_of_heap hp2 rfl; have c6 : w2.cell? ⟨w.heap.size, 6, none⟩ = some (.string bo) := cell_of_heap hp2 rfl)
  have hq0 := heap_keep ((Grew.rf _).al (.cells #[.int .i64 0, .int .i64 0, .int .i64 0, .string { data := #[] }, .string { data := #[] }, .slice A n c, .string bo, .int .i64 0, .int .i64 0, .bool false, .string { data := #[] }, .int .u64 0] 34)) hp2
  have hq1 := heap_alloc_new w2 (.cells #[.int .i64 0, .int .i64 0, .int .i64 0, .string { data := #[] }, .string { data := #[] }, .slice A n c, .string bo, .int .i64 0, .int .i64 0, .bool false, .string { data := #[] }, .int .u64 0] 34)
  have hgW : Grew w (w2.alloc (.cells #[.int .i64 0, .int .i64 0, .int .i64 0, .string { data := #[] }, .string { data := #[] }, .slice A n c, .string bo, .int .i64 0, .int .i64 0, .bool false, .string { data := #[] }, .int .u64 0] 34)) := (((Grew.rf w).al _).tr hg2).al _
  have hlt : w.heap.size < w2.heap.size := by have := hg2.size; rw [World.size_alloc] at this; omega
  clear hp2 c5 c6 hg2
  generalize w2.alloc (.cells #[.int .i64 0, .int .i64 0, .int .i64 0, .string { data := #[] }, .string { data := #[] }, .slice A n c, .string bo, .int .i64 0, .int .i64 0, .bool false, .string { data := #[] }, .int .u64 0] 34) = W at *
  obtain ⟨hb, hhb⟩ : ∃ hb, w.heap.size = hb := ⟨_, rfl⟩
  obtain ⟨kb, hkb⟩ : ∃ kb, w2.heap.size = kb := ⟨_, rfl⟩
  rw [hhb] at hq0 hlt ⊢
  rw [hkb] at hq1 hlt ⊢
  have HHB := Lib.hid hhb
  have HLT := Lib.hid hlt
  have HQ0 : RowKit.Hid (W.heap[hb]? = some (.cells #[.int .i64 6, .int .i64 se, .int .i64 ti, .string me, .string ur, .slice A n c, .string bo, .int .i64 st, .int .i64 co, .bool cr, .string no, .int .u64 nn] 34)) := hq0
  have HQ1 : RowKit.Hid (W.heap[kb]? = some (.cells #[.int .i64 0, .int .i64 0, .int .i64 0, .string { data := #[] }, .string { data := #[] }, .slice A n c, .string bo, .int .i64 0, .int .i64 0, .bool false, .string { data := #[] }, .int .u64 0] 34)) := hq1
  have HGW := Lib.hid hgW
  clear hhb hkb hlt hq0 hq1 hgW
  have c0 : W.cell? ⟨hb, 0, none⟩ = some (.int .i64 6) := cell_of_heap HQ0.out rfl
  have hba := bare_b ⟨6, se, ti, me, ur, hs, bo, st, co, cr, no, nn⟩ A n c ⟨0, 0, 0, noT, noT, [], noT, 0, 0, false, noT, nn⟩ none 0 0 W (HR.out.keep HGW.out) (RdV.nil _ _ _) (by omega) (by omega) (decide (me = noT ∧ ur = noT ∧ hs = [] ∧ bo = noT ∧ st = 0 ∧ co = 0 ∧ cr = false ∧ no = noT)) (by simp [sameE])
  have HBA := Lib.hid hba
  clear hba
  have c11 : W.cell? ⟨hb, 11, none⟩ = some (.int .u64 nn) := cell_of_heap HQ0.out rfl
  have hq0 := HQ0.out
  generalize decide (me = noT ∧ ur = noT ∧ hs = [] ∧ bo = noT ∧ st = 0 ∧ co = 0 ∧ cr = false ∧ no = noT) = bb at HBA HG
  go_wp2_with (first | (refine ld_row (.inl rfl) rfl rfl hq0 rfl Try.underlying34 (by kernel_rfl) ?_) | (go_at_call 71; refine Calls.mono HBA.out ?_; rintro e w3 ⟨rfl, hg3⟩))
  go_ret
  exact ⟨by rw [HG.out]; rfl, HGW.out.tr hg3⟩
set_option maxRecDepth 100000 in
set_option maxHeartbeats 6400000 in
theorem good_5 (se ti : Int) (me ur : ByteArray) (hs : List Hdr) (bo : ByteArray) (st co : Int) (cr : Bool) (no : ByteArray) (nn : Int) (A : Option Addr) (n c : Nat) (w : World) (hsz : sizedB ⟨5, se, ti, me, ur, hs, bo, st, co, cr, no, nn⟩ = true) (hr : RdH w A n hs) (hA : A = none → n = 0 ∧ c = 0) (hn : n ≤ 1000) : GoodC ⟨5, se, ti, me, ur, hs, bo, st, co, cr, no, nn⟩ A n c w := by
  have hg : goodE ⟨5, se, ti, me, ur, hs, bo, st, co, cr, no, nn⟩ = (decide (me = noT ∧ ur = noT ∧ hs = [] ∧ bo = noT ∧ st = 0 ∧ co = 0 ∧ cr = false ∧ no = noT) && (decide (nn ≤ 1099511627776) && decide (se = 0))) := by
    unfold goodE
    rw [hsz]
    rfl
  have HG := Lib.hid hg
  have hsd := fun (u : World) (hu : Grew w u) => sized_any ⟨5, se, ti, me, ur, hs, bo, st, co, cr, no, nn⟩ A n c u (hr.keep hu) (by omega)
  rw [hsz] at hsd
  have HSD := Lib.hid hsd
  have HR := Lib.hid hr
  have HAN := Lib.hid hA
  clear hg hsd hsz hr hA
  show Calls _ _ _ _ _
  go_enter Try.func38, Try.ntmps38
  go_upto_region 4 with (go_at_call 70; refine Calls.mono (HSD.out _ ((Grew.rf w).al _)) ?_; rintro e w2 ⟨rfl, hg2⟩; have hp2 := heap_keep hg2 (heap_alloc_new w (evO ⟨5, se, ti, me, ur, hs, bo, st, co, cr, no, nn⟩ A n c)); have c5 : w2.cell? ⟨w.heap.size, 5, none⟩ = some (.slice A n c) := cell_of_heap hp2 rfl; have c6 : w2.cell? ⟨w.heap.size, 6, none⟩ = some (.string bo) := cell_of_heap hp2 rfl)
  have hq0 := heap_keep ((Grew.rf _).al (.cells #[.int .i64 0, .int .i64 0, .int .i64 0, .string { data := #[] }, .string { data := #[] }, .slice A n c, .string bo, .int .i64 0, .int .i64 0, .bool false, .string { data := #[] }, .int .u64 0] 34)) hp2
  have hq1 := heap_alloc_new w2 (.cells #[.int .i64 0, .int .i64 0, .int .i64 0, .string { data := #[] }, .string { data := #[] }, .slice A n c, .string bo, .int .i64 0, .int .i64 0, .bool false, .string { data := #[] }, .int .u64 0] 34)
  have hgW : Grew w (w2.alloc (.cells #[.int .i64 0, .int .i64 0, .int .i64 0, .string { data := #[] }, .string { data := #[] }, .slice A n c, .string bo, .int .i64 0, .int .i64 0, .bool false, .string { data := #[] }, .int .u64 0] 34)) := (((Grew.rf w).al _).tr hg2).al _
  have hlt : w.heap.size < w2.heap.size := by have := hg2.size; rw [World.size_alloc] at this; omega
  clear hp2 c5 c6 hg2
  generalize w2.alloc (.cells #[.int .i64 0, .int .i64 0, .int .i64 0, .string { data := #[] }, .string { data := #[] }, .slice A n c, .string bo, .int .i64 0, .int .i64 0, .bool false, .string { data := #[] }, .int .u64 0] 34) = W at *
  obtain ⟨hb, hhb⟩ : ∃ hb, w.heap.size = hb := ⟨_, rfl⟩
  obtain ⟨kb, hkb⟩ : ∃ kb, w2.heap.size = kb := ⟨_, rfl⟩
  rw [hhb] at hq0 hlt ⊢
  rw [hkb] at hq1 hlt ⊢
  have HHB := Lib.hid hhb
  have HLT := Lib.hid hlt
  have HQ0 : RowKit.Hid (W.heap[hb]? = some (.cells #[.int .i64 5, .int .i64 se, .int .i64 ti, .string me, .string ur, .slice A n c, .string bo, .int .i64 st, .int .i64 co, .bool cr, .string no, .int .u64 nn] 34)) := hq0
  have HQ1 : RowKit.Hid (W.heap[kb]? = some (.cells #[.int .i64 0, .int .i64 0, .int .i64 0, .string { data := #[] }, .string { data := #[] }, .slice A n c, .string bo, .int .i64 0, .int .i64 0, .bool false, .string { data := #[] }, .int .u64 0] 34)) := hq1
  have HGW := Lib.hid hgW
  clear hhb hkb hlt hq0 hq1 hgW
  have c0 : W.cell? ⟨hb, 0, none⟩ = some (.int .i64 5) := cell_of_heap HQ0.out rfl
  have hba := bare_b ⟨5, se, ti, me, ur, hs, bo, st, co, cr, no, nn⟩ A n c ⟨0, 0, 0, noT, noT, [], noT, 0, 0, false, noT, nn⟩ none 0 0 W (HR.out.keep HGW.out) (RdV.nil _ _ _) (by omega) (by omega) (decide (me = noT ∧ ur = noT ∧ hs = [] ∧ bo = noT ∧ st = 0 ∧ co = 0 ∧ cr = false ∧ no = noT)) (by simp [sameE])
  have HBA := Lib.hid hba
  clear hba
  have c11 : W.cell? ⟨hb, 11, none⟩ = some (.int .u64 nn) := cell_of_heap HQ0.out rfl
  have c1 : W.cell? ⟨hb, 1, none⟩ = some (.int .i64 se) := cell_of_heap HQ0.out rfl
  have hq0 := HQ0.out
  generalize decide (me = noT ∧ ur = noT ∧ hs = [] ∧ bo = noT ∧ st = 0 ∧ co = 0 ∧ cr = false ∧ no = noT) = bb at HBA HG
  cases bb <;> (
  go_wp2_with (first | (refine ld_row (.inl rfl) rfl rfl hq0 rfl Try.underlying34 (by kernel_rfl) ?_) | (go_at_call 71; refine Calls.mono HBA.out ?_; rintro e w3 ⟨rfl, hg3⟩; have hq3 := heap_keep hg3 hq0; have e11 : w3.cell? ⟨hb, 11, none⟩ = some (.int .u64 nn) := cell_of_heap hq3 rfl; have e1 : w3.cell? ⟨hb, 1, none⟩ = some (.int .i64 se) := cell_of_heap hq3 rfl; clear hq3))
  all_goals
    go_ret
    refine ⟨congrArg (fun b => Ending.returned (Value.bool b)) ?_, ?_⟩
    · rw [HG.out]
      clear HG HSD HR HBA
      first | (simp [*]; done) | (rw [Bool.eq_iff_iff]; simp [*]; done) | (rw [Bool.eq_iff_iff]; simp [*]; omega) | (rw [Bool.eq_iff_iff]; simp at *; simp [*]; done) | (simp at *; omega)
    · first | exact HGW.out.tr hg3 | exact HGW.out)
set_option maxRecDepth 100000 in
set_option maxHeartbeats 6400000 in
theorem good_7 (se ti : Int) (me ur : ByteArray) (hs : List Hdr) (bo : ByteArray) (st co : Int) (cr : Bool) (no : ByteArray) (nn : Int) (A : Option Addr) (n c : Nat) (w : World) (hsz : sizedB ⟨7, se, ti, me, ur, hs, bo, st, co, cr, no, nn⟩ = true) (hr : RdH w A n hs) (hA : A = none → n = 0 ∧ c = 0) (hn : n ≤ 1000) : GoodC ⟨7, se, ti, me, ur, hs, bo, st, co, cr, no, nn⟩ A n c w := by
  have hg : goodE ⟨7, se, ti, me, ur, hs, bo, st, co, cr, no, nn⟩ = (decide (me = noT ∧ ur = noT ∧ hs = [] ∧ bo = noT ∧ cr = false ∧ no = noT ∧ nn = 0) && (decide (1 ≤ co ∧ co ≤ 16) && decide (0 ≤ st ∧ st ≤ 599))) := by
    unfold goodE
    rw [hsz]
    rfl
  have HG := Lib.hid hg
  have hsd := fun (u : World) (hu : Grew w u) => sized_any ⟨7, se, ti, me, ur, hs, bo, st, co, cr, no, nn⟩ A n c u (hr.keep hu) (by omega)
  rw [hsz] at hsd
  have HSD := Lib.hid hsd
  have HR := Lib.hid hr
  have HAN := Lib.hid hA
  clear hg hsd hsz hr hA
  show Calls _ _ _ _ _
  go_enter Try.func38, Try.ntmps38
  go_upto_region 4 with (go_at_call 70; refine Calls.mono (HSD.out _ ((Grew.rf w).al _)) ?_; rintro e w2 ⟨rfl, hg2⟩; have hp2 := heap_keep hg2 (heap_alloc_new w (evO ⟨7, se, ti, me, ur, hs, bo, st, co, cr, no, nn⟩ A n c)); have c5 : w2.cell? ⟨w.heap.size, 5, none⟩ = some (.slice A n c) := cell_of_heap hp2 rfl; have c6 : w2.cell? ⟨w.heap.size, 6, none⟩ = some (.string bo) := cell_of_heap hp2 rfl)
  have hq0 := heap_keep ((Grew.rf _).al (.cells #[.int .i64 0, .int .i64 0, .int .i64 0, .string { data := #[] }, .string { data := #[] }, .slice A n c, .string bo, .int .i64 0, .int .i64 0, .bool false, .string { data := #[] }, .int .u64 0] 34)) hp2
  have hq1 := heap_alloc_new w2 (.cells #[.int .i64 0, .int .i64 0, .int .i64 0, .string { data := #[] }, .string { data := #[] }, .slice A n c, .string bo, .int .i64 0, .int .i64 0, .bool false, .string { data := #[] }, .int .u64 0] 34)
  have hgW : Grew w (w2.alloc (.cells #[.int .i64 0, .int .i64 0, .int .i64 0, .string { data := #[] }, .string { data := #[] }, .slice A n c, .string bo, .int .i64 0, .int .i64 0, .bool false, .string { data := #[] }, .int .u64 0] 34)) := (((Grew.rf w).al _).tr hg2).al _
  have hlt : w.heap.size < w2.heap.size := by have := hg2.size; rw [World.size_alloc] at this; omega
  clear hp2 c5 c6 hg2
  generalize w2.alloc (.cells #[.int .i64 0, .int .i64 0, .int .i64 0, .string { data := #[] }, .string { data := #[] }, .slice A n c, .string bo, .int .i64 0, .int .i64 0, .bool false, .string { data := #[] }, .int .u64 0] 34) = W at *
  obtain ⟨hb, hhb⟩ : ∃ hb, w.heap.size = hb := ⟨_, rfl⟩
  obtain ⟨kb, hkb⟩ : ∃ kb, w2.heap.size = kb := ⟨_, rfl⟩
  rw [hhb] at hq0 hlt ⊢
  rw [hkb] at hq1 hlt ⊢
  have HHB := Lib.hid hhb
  have HLT := Lib.hid hlt
  have HQ0 : RowKit.Hid (W.heap[hb]? = some (.cells #[.int .i64 7, .int .i64 se, .int .i64 ti, .string me, .string ur, .slice A n c, .string bo, .int .i64 st, .int .i64 co, .bool cr, .string no, .int .u64 nn] 34)) := hq0
  have HQ1 : RowKit.Hid (W.heap[kb]? = some (.cells #[.int .i64 0, .int .i64 0, .int .i64 0, .string { data := #[] }, .string { data := #[] }, .slice A n c, .string bo, .int .i64 0, .int .i64 0, .bool false, .string { data := #[] }, .int .u64 0] 34)) := hq1
  have HGW := Lib.hid hgW
  clear hhb hkb hlt hq0 hq1 hgW
  have c0 : W.cell? ⟨hb, 0, none⟩ = some (.int .i64 7) := cell_of_heap HQ0.out rfl
  have hba := bare_b ⟨7, se, ti, me, ur, hs, bo, st, co, cr, no, nn⟩ A n c ⟨0, 0, 0, noT, noT, [], noT, st, co, false, noT, 0⟩ none 0 0 W (HR.out.keep HGW.out) (RdV.nil _ _ _) (by omega) (by omega) (decide (me = noT ∧ ur = noT ∧ hs = [] ∧ bo = noT ∧ cr = false ∧ no = noT ∧ nn = 0)) (by simp [sameE])
  have HBA := Lib.hid hba
  clear hba
  have c7 : W.cell? ⟨hb, 7, none⟩ = some (.int .i64 st) := cell_of_heap HQ0.out rfl
  have c8 : W.cell? ⟨hb, 8, none⟩ = some (.int .i64 co) := cell_of_heap HQ0.out rfl
  have hq0 := HQ0.out
  generalize decide (me = noT ∧ ur = noT ∧ hs = [] ∧ bo = noT ∧ cr = false ∧ no = noT ∧ nn = 0) = bb at HBA HG
  cases bb <;> (
  go_wp2_with (first | (refine ld_row (.inl rfl) rfl rfl hq0 rfl Try.underlying34 (by kernel_rfl) ?_) | (go_at_call 71; refine Calls.mono HBA.out ?_; rintro e w3 ⟨rfl, hg3⟩; have hq3 := heap_keep hg3 hq0; have e7 : w3.cell? ⟨hb, 7, none⟩ = some (.int .i64 st) := cell_of_heap hq3 rfl; have e8 : w3.cell? ⟨hb, 8, none⟩ = some (.int .i64 co) := cell_of_heap hq3 rfl; clear hq3) | (go_at_call 52; refine Calls.mono (ewithin_any _ _ _ _) ?_; rintro e w4 ⟨rfl, rfl⟩))
  all_goals
    go_ret
    refine ⟨congrArg (fun b => Ending.returned (Value.bool b)) ?_, ?_⟩
    · rw [HG.out]
      clear HG HSD HR HBA
      first | (simp [*]; done) | (rw [Bool.eq_iff_iff]; simp [*]; done) | (rw [Bool.eq_iff_iff]; simp [*]; omega) | (rw [Bool.eq_iff_iff]; simp at *; simp [*]; done) | (simp at *; omega)
    · first | exact HGW.out.tr hg3 | exact HGW.out)
end Go.Proofs.Ytbkcpgaicoagfaa
