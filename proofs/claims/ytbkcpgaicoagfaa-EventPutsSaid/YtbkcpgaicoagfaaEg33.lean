/- event.Input whole; the reference's Request and Input. Printed by wip/mkEv19.py. -/
import Derived.Test.YtbkcpgaicoagfaaEg31
import Derived.Test.YtbkcpgaicoagfaaEg32
set_option linter.unusedVariables false
set_option linter.unusedSimpArgs false
namespace Go.Proofs.Ytbkcpgaicoagfaa
open Go.RowKit

theorem einput_any (x : Ev) (A : Option Addr) (n c : Nat) (w : World) (hr : RdH w A n x.hs) (hA : A = none → n = 0 ∧ c = 0) (hn : n ≤ 1000) : InpC x A n c w := by
  obtain ⟨ki, se, ti, me, ur, hs, bo, st, co, cr, no, nn⟩ := x
  cases hg : goodE ⟨ki, se, ti, me, ur, hs, bo, st, co, cr, no, nn⟩ with
  | false => exact input_bad _ _ _ _ _ _ _ _ _ _ _ _ _ _ _ _ hg hr hA hn
  | true =>
    by_cases h1 : ki = 1
    · subst h1; exact input_1 _ _ _ _ _ _ _ _ _ _ _ _ _ _ _ hg hr hA hn
    by_cases h3 : ki = 3
    · subst h3; exact input_3 _ _ _ _ _ _ _ _ _ _ _ _ _ _ _ hg hr hA hn
    by_cases h4 : ki = 4
    · subst h4; exact input_4 _ _ _ _ _ _ _ _ _ _ _ _ _ _ _ hg hr hA hn
    by_cases h5 : ki = 5
    · subst h5; exact input_5 _ _ _ _ _ _ _ _ _ _ _ _ _ _ _ hg hr hA hn
    by_cases h6 : ki = 6
    · subst h6; exact input_6 _ _ _ _ _ _ _ _ _ _ _ _ _ _ _ hg hr hA hn
    exact input_no _ _ _ _ _ _ _ _ _ _ _ _ _ _ _ _ h1 h3 h4 h5 h6 hg hr hA hn

set_option maxRecDepth 100000 in
set_option maxHeartbeats 3200000 in
theorem rrequest_any (x : Ev) (A : Option Addr) (n c : Nat) (w : World) (q0 : 0 ≤ x.co) (q1 : x.co ≤ 1000) :
    Calls Try.prog 69 #[evV x A n c] w fun e w' => e = .returned (rqV x A n c) ∧ Grew w w' := by
  obtain ⟨ki, se, ti, me, ur, hs, bo, st, co, cr, no, nn⟩ := x
  dsimp only at q0 q1
  have w4 : wrap64 (co.tdiv 4) = co / 4 := by rw [Int.tdiv_eq_ediv_of_nonneg q0]; exact wrap64_id (by omega) (by omega)
  have w16 : wrap64 (co.tdiv 16) = co / 16 := by rw [Int.tdiv_eq_ediv_of_nonneg q0]; exact wrap64_id (by omega) (by omega)
  have w64 : wrap64 (co.tdiv 64) = co / 64 := by rw [Int.tdiv_eq_ediv_of_nonneg q0]; exact wrap64_id (by omega) (by omega)
  have t4 : (co / 4).tmod 4 = co / 4 % 4 := Int.tmod_eq_emod_of_nonneg (by omega)
  have t16 : (co / 16).tmod 4 = co / 16 % 4 := Int.tmod_eq_emod_of_nonneg (by omega)
  have t0 : co.tmod 4 = co % 4 := Int.tmod_eq_emod_of_nonneg q0
  have HT := Lib.hid (And.intro w4 (And.intro w16 (And.intro w64 (And.intro t4 (And.intro t16 t0)))))
  clear w4 w16 w64 t4 t16 t0 q0 q1
  go_enter Try.func69, Try.ntmps69
  go_upto_region 1 with fail
  have hp0 := heap_keep ((Grew.rf _).al (.cells #[.string { data := #[] }, .string { data := #[] }, .int .i64 0, .int .i64 0, .int .i64 0, .int .i64 0, .string { data := #[] }, .slice none 0 0, .string { data := #[] }] 72)) (heap_alloc_new w (.cells #[.int .i64 ki, .int .i64 se, .int .i64 ti, .string me, .string ur, .slice A n c, .string bo, .int .i64 st, .int .i64 co, .bool cr, .string no, .int .u64 nn] 34))
  have hp1 := heap_alloc_new (w.alloc (.cells #[.int .i64 ki, .int .i64 se, .int .i64 ti, .string me, .string ur, .slice A n c, .string bo, .int .i64 st, .int .i64 co, .bool cr, .string no, .int .u64 nn] 34)) (.cells #[.string { data := #[] }, .string { data := #[] }, .int .i64 0, .int .i64 0, .int .i64 0, .int .i64 0, .string { data := #[] }, .slice none 0 0, .string { data := #[] }] 72)
  have hgW : Grew w ((w.alloc (.cells #[.int .i64 ki, .int .i64 se, .int .i64 ti, .string me, .string ur, .slice A n c, .string bo, .int .i64 st, .int .i64 co, .bool cr, .string no, .int .u64 nn] 34)).alloc (.cells #[.string { data := #[] }, .string { data := #[] }, .int .i64 0, .int .i64 0, .int .i64 0, .int .i64 0, .string { data := #[] }, .slice none 0 0, .string { data := #[] }] 72)) := ((Grew.rf w).al _).al _
  generalize (w.alloc (.cells #[.int .i64 ki, .int .i64 se, .int .i64 ti, .string me, .string ur, .slice A n c, .string bo, .int .i64 st, .int .i64 co, .bool cr, .string no, .int .u64 nn] 34)).alloc (.cells #[.string { data := #[] }, .string { data := #[] }, .int .i64 0, .int .i64 0, .int .i64 0, .int .i64 0, .string { data := #[] }, .slice none 0 0, .string { data := #[] }] 72) = W at *
  rw [World.size_alloc] at hp1
  obtain ⟨hb, hhb⟩ : ∃ hb, w.heap.size = hb := ⟨_, rfl⟩
  rw [hhb] at hp0 hp1 ⊢
  have HGW := Lib.hid hgW
  have HHB := Lib.hid hhb
  clear hgW hhb
  have c3 : W.cell? ⟨hb, 3, none⟩ = some (.string me) := cell_of_heap hp0 rfl
  have c4 : W.cell? ⟨hb, 4, none⟩ = some (.string ur) := cell_of_heap hp0 rfl
  have c5 : W.cell? ⟨hb, 5, none⟩ = some (.slice A n c) := cell_of_heap hp0 rfl
  have c6 : W.cell? ⟨hb, 6, none⟩ = some (.string bo) := cell_of_heap hp0 rfl
  have c8 : W.cell? ⟨hb, 8, none⟩ = some (.int .i64 co) := cell_of_heap hp0 rfl
  have c10 : W.cell? ⟨hb, 10, none⟩ = some (.string no) := cell_of_heap hp0 rfl
  clear hp0
  go_wp2_with ((with_reducible refine gate_st 72 (.tmp 2) (.tmp 27) rfl ?_); refine st_row0 rfl rfl rfl rfl rfl hp1 (by kernel_rfl) rfl (by simp [Value.oneCell']) ?_; intro W2 hW2 hby2)
  rw [HT.out.1, HT.out.2.1, HT.out.2.2.1, HT.out.2.2.2.1, HT.out.2.2.2.2.1, HT.out.2.2.2.2.2] at hW2
  refine bodyPost_ret (v := rqV ⟨ki, se, ti, me, ur, hs, bo, st, co, cr, no, nn⟩ A n c) (results_cell_row rfl _ _ (hb + 1) _ _ _ _ rfl hW2 Try.underlying72 rfl (by kernel_rfl)) rfl ?_
  exact ⟨rfl, grown_at HGW.out hby2 (by rw [HHB.out]; omega) HGW.out.size⟩

theorem rinp_ret {tmps : Array Value} {W : World} {K : Nat} {cs : Array Value} {v3 : Value} (h2 : tmps.getD 2 undef = .pointer (some ⟨K, 0, none⟩)) (h3 : tmps.getD 3 undef = v3) (hK : W.heap[K]? = some (.cells cs 76)) (hs : cs.size = 15) :
    (results Try.f37 tmps).run Try.prog W = .ok (.tuple #[.agg cs, v3]) W := by
  have hl := run_loadVar_row (P := Try.prog) W K 76 76 cs (0, 0) _ hK Try.underlying76 rfl (by rw [hs]; kernel_rfl)
  have h2' : tmps[2]?.getD undef = .pointer (some ⟨K, 0, none⟩) := by simpa using h2
  have h3' : tmps[3]?.getD undef = v3 := by simpa using h3
  simp [results, Try.results37, h2', h3', asAddr, hl]
abbrev RInpC (x : Ev) (A : Option Addr) (n c : Nat) (w : World) : Prop := Calls Try.prog 37 #[evV x A n c] w (InpQ w (inE x))

set_option maxRecDepth 100000 in
set_option maxHeartbeats 6400000 in
theorem rinput_bad (ki se ti : Int) (me ur : ByteArray) (hs : List Hdr) (bo : ByteArray) (st co : Int) (cr : Bool) (no : ByteArray) (nn : Int) (A : Option Addr) (n c : Nat) (w : World) (hgd : goodE ⟨ki, se, ti, me, ur, hs, bo, st, co, cr, no, nn⟩ = false) (hr : RdH w A n hs) (hn : n ≤ 1000) (hco : -9223372036854775808 ≤ co ∧ co ≤ 9223372036854775807) : RInpC ⟨ki, se, ti, me, ur, hs, bo, st, co, cr, no, nn⟩ A n c w := by
  have hin : inE ⟨ki, se, ti, me, ur, hs, bo, st, co, cr, no, nn⟩ = (inZ, false) := by
    unfold inE
    rw [if_pos hgd]
  have HIN := Lib.hid hin
  have hg := fun (u : World) (hu : Grew w u) => rgood_any ⟨ki, se, ti, me, ur, hs, bo, st, co, cr, no, nn⟩ A n c u (hr.keep hu) hn hco
  rw [hgd] at hg
  have HG := Lib.hid hg
  have HR := Lib.hid hr
  clear hin hg hgd hr hco
  show Calls _ _ _ _ _
  go_enter Try.func37, Try.ntmps37
  go_upto_region 2 with fail
  have hx0 := heap_keep (((Grew.rf _).al (.cells #[.int .i64 0, .int .i64 0, .string { data := #[] }, .string { data := #[] }, .int .i64 0, .int .i64 0, .int .i64 0, .int .i64 0, .string { data := #[] }, .slice none 0 0, .string { data := #[] }, .int .i64 0, .slice none 0 0, .string { data := #[] }, .int .u64 0] 76)).al (.cells #[.int .i64 0, .int .i64 0, .string { data := #[] }, .string { data := #[] }, .int .i64 0, .int .i64 0, .int .i64 0, .int .i64 0, .string { data := #[] }, .slice none 0 0, .string { data := #[] }, .int .i64 0, .slice none 0 0, .string { data := #[] }, .int .u64 0] 76)) (heap_alloc_new w (evO ⟨ki, se, ti, me, ur, hs, bo, st, co, cr, no, nn⟩ A n c))
  have hr0 := heap_keep ((Grew.rf _).al (.cells #[.int .i64 0, .int .i64 0, .string { data := #[] }, .string { data := #[] }, .int .i64 0, .int .i64 0, .int .i64 0, .int .i64 0, .string { data := #[] }, .slice none 0 0, .string { data := #[] }, .int .i64 0, .slice none 0 0, .string { data := #[] }, .int .u64 0] 76)) (heap_alloc_new (w.alloc (evO ⟨ki, se, ti, me, ur, hs, bo, st, co, cr, no, nn⟩ A n c)) (.cells #[.int .i64 0, .int .i64 0, .string { data := #[] }, .string { data := #[] }, .int .i64 0, .int .i64 0, .int .i64 0, .int .i64 0, .string { data := #[] }, .slice none 0 0, .string { data := #[] }, .int .i64 0, .slice none 0 0, .string { data := #[] }, .int .u64 0] 76))
  have hz0 := heap_alloc_new ((w.alloc (evO ⟨ki, se, ti, me, ur, hs, bo, st, co, cr, no, nn⟩ A n c)).alloc (.cells #[.int .i64 0, .int .i64 0, .string { data := #[] }, .string { data := #[] }, .int .i64 0, .int .i64 0, .int .i64 0, .int .i64 0, .string { data := #[] }, .slice none 0 0, .string { data := #[] }, .int .i64 0, .slice none 0 0, .string { data := #[] }, .int .u64 0] 76)) (.cells #[.int .i64 0, .int .i64 0, .string { data := #[] }, .string { data := #[] }, .int .i64 0, .int .i64 0, .int .i64 0, .int .i64 0, .string { data := #[] }, .slice none 0 0, .string { data := #[] }, .int .i64 0, .slice none 0 0, .string { data := #[] }, .int .u64 0] 76)
  have hgW : Grew w (((w.alloc (evO ⟨ki, se, ti, me, ur, hs, bo, st, co, cr, no, nn⟩ A n c)).alloc (.cells #[.int .i64 0, .int .i64 0, .string { data := #[] }, .string { data := #[] }, .int .i64 0, .int .i64 0, .int .i64 0, .int .i64 0, .string { data := #[] }, .slice none 0 0, .string { data := #[] }, .int .i64 0, .slice none 0 0, .string { data := #[] }, .int .u64 0] 76)).alloc (.cells #[.int .i64 0, .int .i64 0, .string { data := #[] }, .string { data := #[] }, .int .i64 0, .int .i64 0, .int .i64 0, .int .i64 0, .string { data := #[] }, .slice none 0 0, .string { data := #[] }, .int .i64 0, .slice none 0 0, .string { data := #[] }, .int .u64 0] 76)) := (((Grew.rf w).al _).al _).al _
  rw [World.size_alloc] at hr0
  rw [World.size_alloc, World.size_alloc] at hz0
  simp only [evO, evA] at hx0 hr0 hz0 hgW
  generalize ((w.alloc (.cells #[.int .i64 ki, .int .i64 se, .int .i64 ti, .string me, .string ur, .slice A n c, .string bo, .int .i64 st, .int .i64 co, .bool cr, .string no, .int .u64 nn] 34)).alloc (.cells #[.int .i64 0, .int .i64 0, .string { data := #[] }, .string { data := #[] }, .int .i64 0, .int .i64 0, .int .i64 0, .int .i64 0, .string { data := #[] }, .slice none 0 0, .string { data := #[] }, .int .i64 0, .slice none 0 0, .string { data := #[] }, .int .u64 0] 76)).alloc (.cells #[.int .i64 0, .int .i64 0, .string { data := #[] }, .string { data := #[] }, .int .i64 0, .int .i64 0, .int .i64 0, .int .i64 0, .string { data := #[] }, .slice none 0 0, .string { data := #[] }, .int .i64 0, .slice none 0 0, .string { data := #[] }, .int .u64 0] 76) = W at *
  obtain ⟨xb, hxb⟩ : ∃ xb, w.heap.size = xb := ⟨_, rfl⟩
  rw [hxb] at hx0 hr0 hz0 ⊢
  have HXB := Lib.hid hxb
  have HX0 := Lib.hid hx0
  have HR0 := Lib.hid hr0
  have HZ0 := Lib.hid hz0
  have HGW := Lib.hid hgW
  clear hxb hx0 hr0 hz0 hgW
  have hx0 := HX0.out
  go_wp2_with (first | ((with_reducible refine gate_ld' 34 (.tmp 1) rfl ?_); refine ld_row (.inl rfl) rfl rfl hx0 rfl Try.underlying34 (by kernel_rfl) ?_) | (go_at_call 39; refine Calls.mono (HG.out _ HGW.out) ?_; rintro e w2 ⟨rfl, hg2⟩; have hr2 := heap_keep hg2 HR0.out; have hz2 := heap_keep hg2 HZ0.out; have hx2 := heap_keep hg2 hx0) | ((with_reducible refine gate_ld' 76 (.tmp 4) rfl ?_); refine ld_row (.inl rfl) rfl rfl hz2 rfl Try.underlying76 (by kernel_rfl) ?_) | ((with_reducible refine gate_st 76 (.tmp 2) (.tmp 9) rfl ?_); refine st_row0 rfl rfl rfl rfl rfl hr2 (by kernel_rfl) rfl (by simp [Value.oneCell']) ?_; intro W3 hW3 hby3))
  have hg2' := HGW.out.tr hg2
  have hg3 : Grew w W3 := grown_at hg2' hby3 (by rw [HXB.out]; omega) hg2'.size
  refine bodyPost_ret (rinp_ret rfl rfl hW3 rfl) rfl ?_
  rw [HIN.out]
  exact ⟨none, 0, 0, none, 0, 0, rfl, RdV.nil _ _ _, RdV.nil _ _ _, by omega, by omega, hg3⟩

set_option maxRecDepth 100000 in
set_option maxHeartbeats 6400000 in
theorem rinput_4 (se ti : Int) (me ur : ByteArray) (hs : List Hdr) (bo : ByteArray) (st co : Int) (cr : Bool) (no : ByteArray) (nn : Int) (A : Option Addr) (n c : Nat) (w : World) (hgd : goodE ⟨4, se, ti, me, ur, hs, bo, st, co, cr, no, nn⟩ = true) (hr : RdH w A n hs) (hn : n ≤ 1000) (hco : -9223372036854775808 ≤ co ∧ co ≤ 9223372036854775807) : RInpC ⟨4, se, ti, me, ur, hs, bo, st, co, cr, no, nn⟩ A n c w := by
  have hnn : nn = 0 := by
    have hgk : goodK ⟨4, se, ti, me, ur, hs, bo, st, co, cr, no, nn⟩ = true := by unfold goodE at hgd; exact (Bool.and_eq_true_iff.1 hgd).2
    simp [goodK] at hgk
    simp [hgk]
  subst hnn
  have hin : inE ⟨4, se, ti, me, ur, hs, bo, st, co, cr, no, 0⟩ = (⟨3, se, noT, noT, 0, 0, 0, 0, noT, [], noT, 0, [], noT, 0⟩, true) := by
    unfold inE
    rw [if_neg (by rw [hgd]; simp)]
    simp

  have HIN := Lib.hid hin
  have hg := fun (u : World) (hu : Grew w u) => rgood_any ⟨4, se, ti, me, ur, hs, bo, st, co, cr, no, 0⟩ A n c u (hr.keep hu) hn hco
  rw [hgd] at hg
  have HG := Lib.hid hg
  have HR := Lib.hid hr
  clear hin hg hgd hr hco
  show Calls _ _ _ _ _
  go_enter Try.func37, Try.ntmps37
  go_upto_region 2 with fail
  have hx0 := heap_keep (((Grew.rf _).al (.cells #[.int .i64 0, .int .i64 0, .string { data := #[] }, .string { data := #[] }, .int .i64 0, .int .i64 0, .int .i64 0, .int .i64 0, .string { data := #[] }, .slice none 0 0, .string { data := #[] }, .int .i64 0, .slice none 0 0, .string { data := #[] }, .int .u64 0] 76)).al (.cells #[.int .i64 0, .int .i64 0, .string { data := #[] }, .string { data := #[] }, .int .i64 0, .int .i64 0, .int .i64 0, .int .i64 0, .string { data := #[] }, .slice none 0 0, .string { data := #[] }, .int .i64 0, .slice none 0 0, .string { data := #[] }, .int .u64 0] 76)) (heap_alloc_new w (evO ⟨4, se, ti, me, ur, hs, bo, st, co, cr, no, 0⟩ A n c))
  have hr0 := heap_keep ((Grew.rf _).al (.cells #[.int .i64 0, .int .i64 0, .string { data := #[] }, .string { data := #[] }, .int .i64 0, .int .i64 0, .int .i64 0, .int .i64 0, .string { data := #[] }, .slice none 0 0, .string { data := #[] }, .int .i64 0, .slice none 0 0, .string { data := #[] }, .int .u64 0] 76)) (heap_alloc_new (w.alloc (evO ⟨4, se, ti, me, ur, hs, bo, st, co, cr, no, 0⟩ A n c)) (.cells #[.int .i64 0, .int .i64 0, .string { data := #[] }, .string { data := #[] }, .int .i64 0, .int .i64 0, .int .i64 0, .int .i64 0, .string { data := #[] }, .slice none 0 0, .string { data := #[] }, .int .i64 0, .slice none 0 0, .string { data := #[] }, .int .u64 0] 76))
  have hz0 := heap_alloc_new ((w.alloc (evO ⟨4, se, ti, me, ur, hs, bo, st, co, cr, no, 0⟩ A n c)).alloc (.cells #[.int .i64 0, .int .i64 0, .string { data := #[] }, .string { data := #[] }, .int .i64 0, .int .i64 0, .int .i64 0, .int .i64 0, .string { data := #[] }, .slice none 0 0, .string { data := #[] }, .int .i64 0, .slice none 0 0, .string { data := #[] }, .int .u64 0] 76)) (.cells #[.int .i64 0, .int .i64 0, .string { data := #[] }, .string { data := #[] }, .int .i64 0, .int .i64 0, .int .i64 0, .int .i64 0, .string { data := #[] }, .slice none 0 0, .string { data := #[] }, .int .i64 0, .slice none 0 0, .string { data := #[] }, .int .u64 0] 76)
  have hgW : Grew w (((w.alloc (evO ⟨4, se, ti, me, ur, hs, bo, st, co, cr, no, 0⟩ A n c)).alloc (.cells #[.int .i64 0, .int .i64 0, .string { data := #[] }, .string { data := #[] }, .int .i64 0, .int .i64 0, .int .i64 0, .int .i64 0, .string { data := #[] }, .slice none 0 0, .string { data := #[] }, .int .i64 0, .slice none 0 0, .string { data := #[] }, .int .u64 0] 76)).alloc (.cells #[.int .i64 0, .int .i64 0, .string { data := #[] }, .string { data := #[] }, .int .i64 0, .int .i64 0, .int .i64 0, .int .i64 0, .string { data := #[] }, .slice none 0 0, .string { data := #[] }, .int .i64 0, .slice none 0 0, .string { data := #[] }, .int .u64 0] 76)) := (((Grew.rf w).al _).al _).al _
  rw [World.size_alloc] at hr0
  rw [World.size_alloc, World.size_alloc] at hz0
  simp only [evO, evA] at hx0 hr0 hz0 hgW
  generalize ((w.alloc (.cells #[.int .i64 4, .int .i64 se, .int .i64 ti, .string me, .string ur, .slice A n c, .string bo, .int .i64 st, .int .i64 co, .bool cr, .string no, .int .u64 0] 34)).alloc (.cells #[.int .i64 0, .int .i64 0, .string { data := #[] }, .string { data := #[] }, .int .i64 0, .int .i64 0, .int .i64 0, .int .i64 0, .string { data := #[] }, .slice none 0 0, .string { data := #[] }, .int .i64 0, .slice none 0 0, .string { data := #[] }, .int .u64 0] 76)).alloc (.cells #[.int .i64 0, .int .i64 0, .string { data := #[] }, .string { data := #[] }, .int .i64 0, .int .i64 0, .int .i64 0, .int .i64 0, .string { data := #[] }, .slice none 0 0, .string { data := #[] }, .int .i64 0, .slice none 0 0, .string { data := #[] }, .int .u64 0] 76) = W at *
  obtain ⟨xb, hxb⟩ : ∃ xb, w.heap.size = xb := ⟨_, rfl⟩
  rw [hxb] at hx0 hr0 hz0 ⊢
  have HXB := Lib.hid hxb
  have HX0 := Lib.hid hx0
  have HR0 := Lib.hid hr0
  have HZ0 := Lib.hid hz0
  have HGW := Lib.hid hgW
  clear hxb hx0 hr0 hz0 hgW
  have hx0 := HX0.out
  go_wp2_with (first | ((with_reducible refine gate_ld' 34 (.tmp 1) rfl ?_); refine ld_row (.inl rfl) rfl rfl hx0 rfl Try.underlying34 (by kernel_rfl) ?_) | (go_at_call 39; refine Calls.mono (HG.out _ HGW.out) ?_; rintro e w2 ⟨rfl, hg2⟩; have hr2 := heap_keep hg2 HR0.out; have hz2 := heap_keep hg2 HZ0.out; have hx2 := heap_keep hg2 hx0; have c0 : w2.cell? ⟨xb, 0, none⟩ = some (.int .i64 4) := cell_of_heap hx2 rfl; have c1 : w2.cell? ⟨xb, 1, none⟩ = some (.int .i64 se) := cell_of_heap hx2 rfl) | ((with_reducible refine gate_st 76 (.tmp 2) (.tmp 35) rfl ?_); refine st_row0 rfl rfl rfl rfl rfl hr2 (by kernel_rfl) rfl (by simp [Value.oneCell']) ?_; intro W3 hW3 hby3))
  have hg2' := HGW.out.tr hg2
  have hg3 : Grew w W3 := grown_at hg2' hby3 (by rw [HXB.out]; omega) hg2'.size
  refine bodyPost_ret (rinp_ret rfl rfl hW3 rfl) rfl ?_
  rw [HIN.out]
  exact ⟨none, 0, 0, none, 0, 0, rfl, RdV.nil _ _ _, RdV.nil _ _ _, by omega, by omega, hg3⟩

set_option maxRecDepth 100000 in
set_option maxHeartbeats 6400000 in
theorem rinput_5 (se ti : Int) (me ur : ByteArray) (hs : List Hdr) (bo : ByteArray) (st co : Int) (cr : Bool) (no : ByteArray) (nn : Int) (A : Option Addr) (n c : Nat) (w : World) (hgd : goodE ⟨5, se, ti, me, ur, hs, bo, st, co, cr, no, nn⟩ = true) (hr : RdH w A n hs) (hn : n ≤ 1000) (hco : -9223372036854775808 ≤ co ∧ co ≤ 9223372036854775807) : RInpC ⟨5, se, ti, me, ur, hs, bo, st, co, cr, no, nn⟩ A n c w := by
  have hse : se = 0 := by
    have hgk : goodK ⟨5, se, ti, me, ur, hs, bo, st, co, cr, no, nn⟩ = true := by unfold goodE at hgd; exact (Bool.and_eq_true_iff.1 hgd).2
    simp [goodK] at hgk
    simp [hgk]
  subst hse
  have hin : inE ⟨5, 0, ti, me, ur, hs, bo, st, co, cr, no, nn⟩ = (⟨4, 0, noT, noT, 0, 0, 0, 0, noT, [], noT, 0, [], noT, nn⟩, true) := by
    unfold inE
    rw [if_neg (by rw [hgd]; simp)]
    simp

  have HIN := Lib.hid hin
  have hg := fun (u : World) (hu : Grew w u) => rgood_any ⟨5, 0, ti, me, ur, hs, bo, st, co, cr, no, nn⟩ A n c u (hr.keep hu) hn hco
  rw [hgd] at hg
  have HG := Lib.hid hg
  have HR := Lib.hid hr
  clear hin hg hgd hr hco
  show Calls _ _ _ _ _
  go_enter Try.func37, Try.ntmps37
  go_upto_region 2 with fail
  have hx0 := heap_keep (((Grew.rf _).al (.cells #[.int .i64 0, .int .i64 0, .string { data := #[] }, .string { data := #[] }, .int .i64 0, .int .i64 0, .int .i64 0, .int .i64 0, .string { data := #[] }, .slice none 0 0, .string { data := #[] }, .int .i64 0, .slice none 0 0, .string { data := #[] }, .int .u64 0] 76)).al (.cells #[.int .i64 0, .int .i64 0, .string { data := #[] }, .string { data := #[] }, .int .i64 0, .int .i64 0, .int .i64 0, .int .i64 0, .string { data := #[] }, .slice none 0 0, .string { data := #[] }, .int .i64 0, .slice none 0 0, .string { data := #[] }, .int .u64 0] 76)) (heap_alloc_new w (evO ⟨5, 0, ti, me, ur, hs, bo, st, co, cr, no, nn⟩ A n c))
  have hr0 := heap_keep ((Grew.rf _).al (.cells #[.int .i64 0, .int .i64 0, .string { data := #[] }, .string { data := #[] }, .int .i64 0, .int .i64 0, .int .i64 0, .int .i64 0, .string { data := #[] }, .slice none 0 0, .string { data := #[] }, .int .i64 0, .slice none 0 0, .string { data := #[] }, .int .u64 0] 76)) (heap_alloc_new (w.alloc (evO ⟨5, 0, ti, me, ur, hs, bo, st, co, cr, no, nn⟩ A n c)) (.cells #[.int .i64 0, .int .i64 0, .string { data := #[] }, .string { data := #[] }, .int .i64 0, .int .i64 0, .int .i64 0, .int .i64 0, .string { data := #[] }, .slice none 0 0, .string { data := #[] }, .int .i64 0, .slice none 0 0, .string { data := #[] }, .int .u64 0] 76))
  have hz0 := heap_alloc_new ((w.alloc (evO ⟨5, 0, ti, me, ur, hs, bo, st, co, cr, no, nn⟩ A n c)).alloc (.cells #[.int .i64 0, .int .i64 0, .string { data := #[] }, .string { data := #[] }, .int .i64 0, .int .i64 0, .int .i64 0, .int .i64 0, .string { data := #[] }, .slice none 0 0, .string { data := #[] }, .int .i64 0, .slice none 0 0, .string { data := #[] }, .int .u64 0] 76)) (.cells #[.int .i64 0, .int .i64 0, .string { data := #[] }, .string { data := #[] }, .int .i64 0, .int .i64 0, .int .i64 0, .int .i64 0, .string { data := #[] }, .slice none 0 0, .string { data := #[] }, .int .i64 0, .slice none 0 0, .string { data := #[] }, .int .u64 0] 76)
  have hgW : Grew w (((w.alloc (evO ⟨5, 0, ti, me, ur, hs, bo, st, co, cr, no, nn⟩ A n c)).alloc (.cells #[.int .i64 0, .int .i64 0, .string { data := #[] }, .string { data := #[] }, .int .i64 0, .int .i64 0, .int .i64 0, .int .i64 0, .string { data := #[] }, .slice none 0 0, .string { data := #[] }, .int .i64 0, .slice none 0 0, .string { data := #[] }, .int .u64 0] 76)).alloc (.cells #[.int .i64 0, .int .i64 0, .string { data := #[] }, .string { data := #[] }, .int .i64 0, .int .i64 0, .int .i64 0, .int .i64 0, .string { data := #[] }, .slice none 0 0, .string { data := #[] }, .int .i64 0, .slice none 0 0, .string { data := #[] }, .int .u64 0] 76)) := (((Grew.rf w).al _).al _).al _
  rw [World.size_alloc] at hr0
  rw [World.size_alloc, World.size_alloc] at hz0
  simp only [evO, evA] at hx0 hr0 hz0 hgW
  generalize ((w.alloc (.cells #[.int .i64 5, .int .i64 0, .int .i64 ti, .string me, .string ur, .slice A n c, .string bo, .int .i64 st, .int .i64 co, .bool cr, .string no, .int .u64 nn] 34)).alloc (.cells #[.int .i64 0, .int .i64 0, .string { data := #[] }, .string { data := #[] }, .int .i64 0, .int .i64 0, .int .i64 0, .int .i64 0, .string { data := #[] }, .slice none 0 0, .string { data := #[] }, .int .i64 0, .slice none 0 0, .string { data := #[] }, .int .u64 0] 76)).alloc (.cells #[.int .i64 0, .int .i64 0, .string { data := #[] }, .string { data := #[] }, .int .i64 0, .int .i64 0, .int .i64 0, .int .i64 0, .string { data := #[] }, .slice none 0 0, .string { data := #[] }, .int .i64 0, .slice none 0 0, .string { data := #[] }, .int .u64 0] 76) = W at *
  obtain ⟨xb, hxb⟩ : ∃ xb, w.heap.size = xb := ⟨_, rfl⟩
  rw [hxb] at hx0 hr0 hz0 ⊢
  have HXB := Lib.hid hxb
  have HX0 := Lib.hid hx0
  have HR0 := Lib.hid hr0
  have HZ0 := Lib.hid hz0
  have HGW := Lib.hid hgW
  clear hxb hx0 hr0 hz0 hgW
  have hx0 := HX0.out
  go_wp2_with (first | ((with_reducible refine gate_ld' 34 (.tmp 1) rfl ?_); refine ld_row (.inl rfl) rfl rfl hx0 rfl Try.underlying34 (by kernel_rfl) ?_) | (go_at_call 39; refine Calls.mono (HG.out _ HGW.out) ?_; rintro e w2 ⟨rfl, hg2⟩; have hr2 := heap_keep hg2 HR0.out; have hz2 := heap_keep hg2 HZ0.out; have hx2 := heap_keep hg2 hx0; have c0 : w2.cell? ⟨xb, 0, none⟩ = some (.int .i64 5) := cell_of_heap hx2 rfl; have c11 : w2.cell? ⟨xb, 11, none⟩ = some (.int .u64 nn) := cell_of_heap hx2 rfl) | ((with_reducible refine gate_st 76 (.tmp 2) (.tmp 40) rfl ?_); refine st_row0 rfl rfl rfl rfl rfl hr2 (by kernel_rfl) rfl (by simp [Value.oneCell']) ?_; intro W3 hW3 hby3))
  have hg2' := HGW.out.tr hg2
  have hg3 : Grew w W3 := grown_at hg2' hby3 (by rw [HXB.out]; omega) hg2'.size
  refine bodyPost_ret (rinp_ret rfl rfl hW3 rfl) rfl ?_
  rw [HIN.out]
  exact ⟨none, 0, 0, none, 0, 0, rfl, RdV.nil _ _ _, RdV.nil _ _ _, by omega, by omega, hg3⟩

set_option maxRecDepth 100000 in
set_option maxHeartbeats 6400000 in
theorem rinput_6 (se ti : Int) (me ur : ByteArray) (hs : List Hdr) (bo : ByteArray) (st co : Int) (cr : Bool) (no : ByteArray) (nn : Int) (A : Option Addr) (n c : Nat) (w : World) (hgd : goodE ⟨6, se, ti, me, ur, hs, bo, st, co, cr, no, nn⟩ = true) (hr : RdH w A n hs) (hn : n ≤ 1000) (hco : -9223372036854775808 ≤ co ∧ co ≤ 9223372036854775807) : RInpC ⟨6, se, ti, me, ur, hs, bo, st, co, cr, no, nn⟩ A n c w := by
  have hin : inE ⟨6, se, ti, me, ur, hs, bo, st, co, cr, no, nn⟩ = (⟨5, se, noT, noT, 0, 0, 0, 0, noT, [], noT, 0, [], noT, nn⟩, true) := by
    unfold inE
    rw [if_neg (by rw [hgd]; simp)]
    simp

  have HIN := Lib.hid hin
  have hg := fun (u : World) (hu : Grew w u) => rgood_any ⟨6, se, ti, me, ur, hs, bo, st, co, cr, no, nn⟩ A n c u (hr.keep hu) hn hco
  rw [hgd] at hg
  have HG := Lib.hid hg
  have HR := Lib.hid hr
  clear hin hg hgd hr hco
  show Calls _ _ _ _ _
  go_enter Try.func37, Try.ntmps37
  go_upto_region 2 with fail
  have hx0 := heap_keep (((Grew.rf _).al (.cells #[.int .i64 0, .int .i64 0, .string { data := #[] }, .string { data := #[] }, .int .i64 0, .int .i64 0, .int .i64 0, .int .i64 0, .string { data := #[] }, .slice none 0 0, .string { data := #[] }, .int .i64 0, .slice none 0 0, .string { data := #[] }, .int .u64 0] 76)).al (.cells #[.int .i64 0, .int .i64 0, .string { data := #[] }, .string { data := #[] }, .int .i64 0, .int .i64 0, .int .i64 0, .int .i64 0, .string { data := #[] }, .slice none 0 0, .string { data := #[] }, .int .i64 0, .slice none 0 0, .string { data := #[] }, .int .u64 0] 76)) (heap_alloc_new w (evO ⟨6, se, ti, me, ur, hs, bo, st, co, cr, no, nn⟩ A n c))
  have hr0 := heap_keep ((Grew.rf _).al (.cells #[.int .i64 0, .int .i64 0, .string { data := #[] }, .string { data := #[] }, .int .i64 0, .int .i64 0, .int .i64 0, .int .i64 0, .string { data := #[] }, .slice none 0 0, .string { data := #[] }, .int .i64 0, .slice none 0 0, .string { data := #[] }, .int .u64 0] 76)) (heap_alloc_new (w.alloc (evO ⟨6, se, ti, me, ur, hs, bo, st, co, cr, no, nn⟩ A n c)) (.cells #[.int .i64 0, .int .i64 0, .string { data := #[] }, .string { data := #[] }, .int .i64 0, .int .i64 0, .int .i64 0, .int .i64 0, .string { data := #[] }, .slice none 0 0, .string { data := #[] }, .int .i64 0, .slice none 0 0, .string { data := #[] }, .int .u64 0] 76))
  have hz0 := heap_alloc_new ((w.alloc (evO ⟨6, se, ti, me, ur, hs, bo, st, co, cr, no, nn⟩ A n c)).alloc (.cells #[.int .i64 0, .int .i64 0, .string { data := #[] }, .string { data := #[] }, .int .i64 0, .int .i64 0, .int .i64 0, .int .i64 0, .string { data := #[] }, .slice none 0 0, .string { data := #[] }, .int .i64 0, .slice none 0 0, .string { data := #[] }, .int .u64 0] 76)) (.cells #[.int .i64 0, .int .i64 0, .string { data := #[] }, .string { data := #[] }, .int .i64 0, .int .i64 0, .int .i64 0, .int .i64 0, .string { data := #[] }, .slice none 0 0, .string { data := #[] }, .int .i64 0, .slice none 0 0, .string { data := #[] }, .int .u64 0] 76)
  have hgW : Grew w (((w.alloc (evO ⟨6, se, ti, me, ur, hs, bo, st, co, cr, no, nn⟩ A n c)).alloc (.cells #[.int .i64 0, .int .i64 0, .string { data := #[] }, .string { data := #[] }, .int .i64 0, .int .i64 0, .int .i64 0, .int .i64 0, .string { data := #[] }, .slice none 0 0, .string { data := #[] }, .int .i64 0, .slice none 0 0, .string { data := #[] }, .int .u64 0] 76)).alloc (.cells #[.int .i64 0, .int .i64 0, .string { data := #[] }, .string { data := #[] }, .int .i64 0, .int .i64 0, .int .i64 0, .int .i64 0, .string { data := #[] }, .slice none 0 0, .string { data := #[] }, .int .i64 0, .slice none 0 0, .string { data := #[] }, .int .u64 0] 76)) := (((Grew.rf w).al _).al _).al _
  rw [World.size_alloc] at hr0
  rw [World.size_alloc, World.size_alloc] at hz0
  simp only [evO, evA] at hx0 hr0 hz0 hgW
  generalize ((w.alloc (.cells #[.int .i64 6, .int .i64 se, .int .i64 ti, .string me, .string ur, .slice A n c, .string bo, .int .i64 st, .int .i64 co, .bool cr, .string no, .int .u64 nn] 34)).alloc (.cells #[.int .i64 0, .int .i64 0, .string { data := #[] }, .string { data := #[] }, .int .i64 0, .int .i64 0, .int .i64 0, .int .i64 0, .string { data := #[] }, .slice none 0 0, .string { data := #[] }, .int .i64 0, .slice none 0 0, .string { data := #[] }, .int .u64 0] 76)).alloc (.cells #[.int .i64 0, .int .i64 0, .string { data := #[] }, .string { data := #[] }, .int .i64 0, .int .i64 0, .int .i64 0, .int .i64 0, .string { data := #[] }, .slice none 0 0, .string { data := #[] }, .int .i64 0, .slice none 0 0, .string { data := #[] }, .int .u64 0] 76) = W at *
  obtain ⟨xb, hxb⟩ : ∃ xb, w.heap.size = xb := ⟨_, rfl⟩
  rw [hxb] at hx0 hr0 hz0 ⊢
  have HXB := Lib.hid hxb
  have HX0 := Lib.hid hx0
  have HR0 := Lib.hid hr0
  have HZ0 := Lib.hid hz0
  have HGW := Lib.hid hgW
  clear hxb hx0 hr0 hz0 hgW
  have hx0 := HX0.out
  go_wp2_with (first | ((with_reducible refine gate_ld' 34 (.tmp 1) rfl ?_); refine ld_row (.inl rfl) rfl rfl hx0 rfl Try.underlying34 (by kernel_rfl) ?_) | (go_at_call 39; refine Calls.mono (HG.out _ HGW.out) ?_; rintro e w2 ⟨rfl, hg2⟩; have hr2 := heap_keep hg2 HR0.out; have hz2 := heap_keep hg2 HZ0.out; have hx2 := heap_keep hg2 hx0; have c0 : w2.cell? ⟨xb, 0, none⟩ = some (.int .i64 6) := cell_of_heap hx2 rfl; have c1 : w2.cell? ⟨xb, 1, none⟩ = some (.int .i64 se) := cell_of_heap hx2 rfl; have c11 : w2.cell? ⟨xb, 11, none⟩ = some (.int .u64 nn) := cell_of_heap hx2 rfl) | ((with_reducible refine gate_st 76 (.tmp 2) (.tmp 47) rfl ?_); refine st_row0 rfl rfl rfl rfl rfl hr2 (by kernel_rfl) rfl (by simp [Value.oneCell']) ?_; intro W3 hW3 hby3))
  have hg2' := HGW.out.tr hg2
  have hg3 : Grew w W3 := grown_at hg2' hby3 (by rw [HXB.out]; omega) hg2'.size
  refine bodyPost_ret (rinp_ret rfl rfl hW3 rfl) rfl ?_
  rw [HIN.out]
  exact ⟨none, 0, 0, none, 0, 0, rfl, RdV.nil _ _ _, RdV.nil _ _ _, by omega, by omega, hg3⟩

set_option maxRecDepth 100000 in
set_option maxHeartbeats 6400000 in
theorem rinput_3 (se ti : Int) (me ur : ByteArray) (hs : List Hdr) (bo : ByteArray) (st co : Int) (cr : Bool) (no : ByteArray) (nn : Int) (A : Option Addr) (n c : Nat) (w : World) (hgd : goodE ⟨3, se, ti, me, ur, hs, bo, st, co, cr, no, nn⟩ = true) (hr : RdH w A n hs) (hn : n ≤ 1000) (hco : -9223372036854775808 ≤ co ∧ co ≤ 9223372036854775807) : RInpC ⟨3, se, ti, me, ur, hs, bo, st, co, cr, no, nn⟩ A n c w := by
  have hnn : nn = 0 := by
    have hgk : goodK ⟨3, se, ti, me, ur, hs, bo, st, co, cr, no, nn⟩ = true := by unfold goodE at hgd; exact (Bool.and_eq_true_iff.1 hgd).2
    simp [goodK] at hgk
    simp [hgk]
  subst hnn
  have hin : inE ⟨3, se, ti, me, ur, hs, bo, st, co, cr, no, 0⟩ = (⟨2, se, noT, noT, 0, 0, 0, 0, noT, [], noT, st, hs, bo, 0⟩, true) := by
    unfold inE
    rw [if_neg (by rw [hgd]; simp)]
    simp

  have HIN := Lib.hid hin
  have hg := fun (u : World) (hu : Grew w u) => rgood_any ⟨3, se, ti, me, ur, hs, bo, st, co, cr, no, 0⟩ A n c u (hr.keep hu) hn hco
  rw [hgd] at hg
  have HG := Lib.hid hg
  have HR := Lib.hid hr
  clear hin hg hgd hr hco
  show Calls _ _ _ _ _
  go_enter Try.func37, Try.ntmps37
  go_upto_region 2 with fail
  have hx0 := heap_keep (((Grew.rf _).al (.cells #[.int .i64 0, .int .i64 0, .string { data := #[] }, .string { data := #[] }, .int .i64 0, .int .i64 0, .int .i64 0, .int .i64 0, .string { data := #[] }, .slice none 0 0, .string { data := #[] }, .int .i64 0, .slice none 0 0, .string { data := #[] }, .int .u64 0] 76)).al (.cells #[.int .i64 0, .int .i64 0, .string { data := #[] }, .string { data := #[] }, .int .i64 0, .int .i64 0, .int .i64 0, .int .i64 0, .string { data := #[] }, .slice none 0 0, .string { data := #[] }, .int .i64 0, .slice none 0 0, .string { data := #[] }, .int .u64 0] 76)) (heap_alloc_new w (evO ⟨3, se, ti, me, ur, hs, bo, st, co, cr, no, 0⟩ A n c))
  have hr0 := heap_keep ((Grew.rf _).al (.cells #[.int .i64 0, .int .i64 0, .string { data := #[] }, .string { data := #[] }, .int .i64 0, .int .i64 0, .int .i64 0, .int .i64 0, .string { data := #[] }, .slice none 0 0, .string { data := #[] }, .int .i64 0, .slice none 0 0, .string { data := #[] }, .int .u64 0] 76)) (heap_alloc_new (w.alloc (evO ⟨3, se, ti, me, ur, hs, bo, st, co, cr, no, 0⟩ A n c)) (.cells #[.int .i64 0, .int .i64 0, .string { data := #[] }, .string { data := #[] }, .int .i64 0, .int .i64 0, .int .i64 0, .int .i64 0, .string { data := #[] }, .slice none 0 0, .string { data := #[] }, .int .i64 0, .slice none 0 0, .string { data := #[] }, .int .u64 0] 76))
  have hz0 := heap_alloc_new ((w.alloc (evO ⟨3, se, ti, me, ur, hs, bo, st, co, cr, no, 0⟩ A n c)).alloc (.cells #[.int .i64 0, .int .i64 0, .string { data := #[] }, .string { data := #[] }, .int .i64 0, .int .i64 0, .int .i64 0, .int .i64 0, .string { data := #[] }, .slice none 0 0, .string { data := #[] }, .int .i64 0, .slice none 0 0, .string { data := #[] }, .int .u64 0] 76)) (.cells #[.int .i64 0, .int .i64 0, .string { data := #[] }, .string { data := #[] }, .int .i64 0, .int .i64 0, .int .i64 0, .int .i64 0, .string { data := #[] }, .slice none 0 0, .string { data := #[] }, .int .i64 0, .slice none 0 0, .string { data := #[] }, .int .u64 0] 76)
  have hgW : Grew w (((w.alloc (evO ⟨3, se, ti, me, ur, hs, bo, st, co, cr, no, 0⟩ A n c)).alloc (.cells #[.int .i64 0, .int .i64 0, .string { data := #[] }, .string { data := #[] }, .int .i64 0, .int .i64 0, .int .i64 0, .int .i64 0, .string { data := #[] }, .slice none 0 0, .string { data := #[] }, .int .i64 0, .slice none 0 0, .string { data := #[] }, .int .u64 0] 76)).alloc (.cells #[.int .i64 0, .int .i64 0, .string { data := #[] }, .string { data := #[] }, .int .i64 0, .int .i64 0, .int .i64 0, .int .i64 0, .string { data := #[] }, .slice none 0 0, .string { data := #[] }, .int .i64 0, .slice none 0 0, .string { data := #[] }, .int .u64 0] 76)) := (((Grew.rf w).al _).al _).al _
  rw [World.size_alloc] at hr0
  rw [World.size_alloc, World.size_alloc] at hz0
  simp only [evO, evA] at hx0 hr0 hz0 hgW
  generalize ((w.alloc (.cells #[.int .i64 3, .int .i64 se, .int .i64 ti, .string me, .string ur, .slice A n c, .string bo, .int .i64 st, .int .i64 co, .bool cr, .string no, .int .u64 0] 34)).alloc (.cells #[.int .i64 0, .int .i64 0, .string { data := #[] }, .string { data := #[] }, .int .i64 0, .int .i64 0, .int .i64 0, .int .i64 0, .string { data := #[] }, .slice none 0 0, .string { data := #[] }, .int .i64 0, .slice none 0 0, .string { data := #[] }, .int .u64 0] 76)).alloc (.cells #[.int .i64 0, .int .i64 0, .string { data := #[] }, .string { data := #[] }, .int .i64 0, .int .i64 0, .int .i64 0, .int .i64 0, .string { data := #[] }, .slice none 0 0, .string { data := #[] }, .int .i64 0, .slice none 0 0, .string { data := #[] }, .int .u64 0] 76) = W at *
  obtain ⟨xb, hxb⟩ : ∃ xb, w.heap.size = xb := ⟨_, rfl⟩
  rw [hxb] at hx0 hr0 hz0 ⊢
  have HXB := Lib.hid hxb
  have HX0 := Lib.hid hx0
  have HR0 := Lib.hid hr0
  have HZ0 := Lib.hid hz0
  have HGW := Lib.hid hgW
  clear hxb hx0 hr0 hz0 hgW
  have hx0 := HX0.out
  go_wp2_with (first | ((with_reducible refine gate_ld' 34 (.tmp 1) rfl ?_); refine ld_row (.inl rfl) rfl rfl hx0 rfl Try.underlying34 (by kernel_rfl) ?_) | (go_at_call 39; refine Calls.mono (HG.out _ HGW.out) ?_; rintro e w2 ⟨rfl, hg2⟩; have hr2 := heap_keep hg2 HR0.out; have hz2 := heap_keep hg2 HZ0.out; have hx2 := heap_keep hg2 hx0; have c0 : w2.cell? ⟨xb, 0, none⟩ = some (.int .i64 3) := cell_of_heap hx2 rfl; have c1 : w2.cell? ⟨xb, 1, none⟩ = some (.int .i64 se) := cell_of_heap hx2 rfl; have c5 : w2.cell? ⟨xb, 5, none⟩ = some (.slice A n c) := cell_of_heap hx2 rfl; have c6 : w2.cell? ⟨xb, 6, none⟩ = some (.string bo) := cell_of_heap hx2 rfl; have c7 : w2.cell? ⟨xb, 7, none⟩ = some (.int .i64 st) := cell_of_heap hx2 rfl) | ((with_reducible refine gate_st 76 (.tmp 2) (.tmp 30) rfl ?_); refine st_row0 rfl rfl rfl rfl rfl hr2 (by kernel_rfl) rfl (by simp [Value.oneCell']) ?_; intro W3 hW3 hby3))
  have hg2' := HGW.out.tr hg2
  have hg3 : Grew w W3 := grown_at hg2' hby3 (by rw [HXB.out]; omega) hg2'.size
  refine bodyPost_ret (rinp_ret rfl rfl hW3 rfl) rfl ?_
  rw [HIN.out]
  exact ⟨none, 0, 0, A, n, c, rfl, RdV.nil _ _ _, HR.out.keep hg3, by omega, hn, hg3⟩

set_option maxRecDepth 100000 in
set_option maxHeartbeats 6400000 in
theorem rinput_no (ki se ti : Int) (me ur : ByteArray) (hs : List Hdr) (bo : ByteArray) (st co : Int) (cr : Bool) (no : ByteArray) (nn : Int) (A : Option Addr) (n c : Nat) (w : World) (h1 : ki ≠ 1) (h3 : ki ≠ 3) (h4 : ki ≠ 4) (h5 : ki ≠ 5) (h6 : ki ≠ 6) (hgd : goodE ⟨ki, se, ti, me, ur, hs, bo, st, co, cr, no, nn⟩ = true) (hr : RdH w A n hs) (hn : n ≤ 1000) (hco : -9223372036854775808 ≤ co ∧ co ≤ 9223372036854775807) : RInpC ⟨ki, se, ti, me, ur, hs, bo, st, co, cr, no, nn⟩ A n c w := by
  have hin : inE ⟨ki, se, ti, me, ur, hs, bo, st, co, cr, no, nn⟩ = (inZ, false) := by
    unfold inE
    rw [if_neg (by rw [hgd]; simp)]
    simp [h1, h3, h4, h5, h6]
  have b1 : (ki == 1) = false := by simpa using h1
  have d1 : decide (ki = 1) = false := by simpa using h1
  have b3 : (ki == 3) = false := by simpa using h3
  have d3 : decide (ki = 3) = false := by simpa using h3
  have b4 : (ki == 4) = false := by simpa using h4
  have d4 : decide (ki = 4) = false := by simpa using h4
  have b5 : (ki == 5) = false := by simpa using h5
  have d5 : decide (ki = 5) = false := by simpa using h5
  have b6 : (ki == 6) = false := by simpa using h6
  have d6 : decide (ki = 6) = false := by simpa using h6
  clear h1 h3 h4 h5 h6
  have HIN := Lib.hid hin
  have hg := fun (u : World) (hu : Grew w u) => rgood_any ⟨ki, se, ti, me, ur, hs, bo, st, co, cr, no, nn⟩ A n c u (hr.keep hu) hn hco
  rw [hgd] at hg
  have HG := Lib.hid hg
  have HR := Lib.hid hr
  clear hin hg hgd hr hco
  show Calls _ _ _ _ _
  go_enter Try.func37, Try.ntmps37
  go_upto_region 2 with fail
  have hx0 := heap_keep (((Grew.rf _).al (.cells #[.int .i64 0, .int .i64 0, .string { data := #[] }, .string { data := #[] }, .int .i64 0, .int .i64 0, .int .i64 0, .int .i64 0, .string { data := #[] }, .slice none 0 0, .string { data := #[] }, .int .i64 0, .slice none 0 0, .string { data := #[] }, .int .u64 0] 76)).al (.cells #[.int .i64 0, .int .i64 0, .string { data := #[] }, .string { data := #[] }, .int .i64 0, .int .i64 0, .int .i64 0, .int .i64 0, .string { data := #[] }, .slice none 0 0, .string { data := #[] }, .int .i64 0, .slice none 0 0, .string { data := #[] }, .int .u64 0] 76)) (heap_alloc_new w (evO ⟨ki, se, ti, me, ur, hs, bo, st, co, cr, no, nn⟩ A n c))
  have hr0 := heap_keep ((Grew.rf _).al (.cells #[.int .i64 0, .int .i64 0, .string { data := #[] }, .string { data := #[] }, .int .i64 0, .int .i64 0, .int .i64 0, .int .i64 0, .string { data := #[] }, .slice none 0 0, .string { data := #[] }, .int .i64 0, .slice none 0 0, .string { data := #[] }, .int .u64 0] 76)) (heap_alloc_new (w.alloc (evO ⟨ki, se, ti, me, ur, hs, bo, st, co, cr, no, nn⟩ A n c)) (.cells #[.int .i64 0, .int .i64 0, .string { data := #[] }, .string { data := #[] }, .int .i64 0, .int .i64 0, .int .i64 0, .int .i64 0, .string { data := #[] }, .slice none 0 0, .string { data := #[] }, .int .i64 0, .slice none 0 0, .string { data := #[] }, .int .u64 0] 76))
  have hz0 := heap_alloc_new ((w.alloc (evO ⟨ki, se, ti, me, ur, hs, bo, st, co, cr, no, nn⟩ A n c)).alloc (.cells #[.int .i64 0, .int .i64 0, .string { data := #[] }, .string { data := #[] }, .int .i64 0, .int .i64 0, .int .i64 0, .int .i64 0, .string { data := #[] }, .slice none 0 0, .string { data := #[] }, .int .i64 0, .slice none 0 0, .string { data := #[] }, .int .u64 0] 76)) (.cells #[.int .i64 0, .int .i64 0, .string { data := #[] }, .string { data := #[] }, .int .i64 0, .int .i64 0, .int .i64 0, .int .i64 0, .string { data := #[] }, .slice none 0 0, .string { data := #[] }, .int .i64 0, .slice none 0 0, .string { data := #[] }, .int .u64 0] 76)
  have hgW : Grew w (((w.alloc (evO ⟨ki, se, ti, me, ur, hs, bo, st, co, cr, no, nn⟩ A n c)).alloc (.cells #[.int .i64 0, .int .i64 0, .string { data := #[] }, .string { data := #[] }, .int .i64 0, .int .i64 0, .int .i64 0, .int .i64 0, .string { data := #[] }, .slice none 0 0, .string { data := #[] }, .int .i64 0, .slice none 0 0, .string { data := #[] }, .int .u64 0] 76)).alloc (.cells #[.int .i64 0, .int .i64 0, .string { data := #[] }, .string { data := #[] }, .int .i64 0, .int .i64 0, .int .i64 0, .int .i64 0, .string { data := #[] }, .slice none 0 0, .string { data := #[] }, .int .i64 0, .slice none 0 0, .string { data := #[] }, .int .u64 0] 76)) := (((Grew.rf w).al _).al _).al _
  rw [World.size_alloc] at hr0
  rw [World.size_alloc, World.size_alloc] at hz0
  simp only [evO, evA] at hx0 hr0 hz0 hgW
  generalize ((w.alloc (.cells #[.int .i64 ki, .int .i64 se, .int .i64 ti, .string me, .string ur, .slice A n c, .string bo, .int .i64 st, .int .i64 co, .bool cr, .string no, .int .u64 nn] 34)).alloc (.cells #[.int .i64 0, .int .i64 0, .string { data := #[] }, .string { data := #[] }, .int .i64 0, .int .i64 0, .int .i64 0, .int .i64 0, .string { data := #[] }, .slice none 0 0, .string { data := #[] }, .int .i64 0, .slice none 0 0, .string { data := #[] }, .int .u64 0] 76)).alloc (.cells #[.int .i64 0, .int .i64 0, .string { data := #[] }, .string { data := #[] }, .int .i64 0, .int .i64 0, .int .i64 0, .int .i64 0, .string { data := #[] }, .slice none 0 0, .string { data := #[] }, .int .i64 0, .slice none 0 0, .string { data := #[] }, .int .u64 0] 76) = W at *
  obtain ⟨xb, hxb⟩ : ∃ xb, w.heap.size = xb := ⟨_, rfl⟩
  rw [hxb] at hx0 hr0 hz0 ⊢
  have HXB := Lib.hid hxb
  have HX0 := Lib.hid hx0
  have HR0 := Lib.hid hr0
  have HZ0 := Lib.hid hz0
  have HGW := Lib.hid hgW
  clear hxb hx0 hr0 hz0 hgW
  have hx0 := HX0.out
  go_wp2_with (first | ((with_reducible refine gate_ld' 34 (.tmp 1) rfl ?_); refine ld_row (.inl rfl) rfl rfl hx0 rfl Try.underlying34 (by kernel_rfl) ?_) | (go_at_call 39; refine Calls.mono (HG.out _ HGW.out) ?_; rintro e w2 ⟨rfl, hg2⟩; have hr2 := heap_keep hg2 HR0.out; have hz2 := heap_keep hg2 HZ0.out; have hx2 := heap_keep hg2 hx0; have c0 : w2.cell? ⟨xb, 0, none⟩ = some (.int .i64 ki) := cell_of_heap hx2 rfl) | ((with_reducible refine gate_ld' 76 (.tmp 4) rfl ?_); refine ld_row (.inl rfl) rfl rfl hz2 rfl Try.underlying76 (by kernel_rfl) ?_) | ((with_reducible refine gate_st 76 (.tmp 2) (.tmp 48) rfl ?_); refine st_row0 rfl rfl rfl rfl rfl hr2 (by kernel_rfl) rfl (by simp [Value.oneCell']) ?_; intro W3 hW3 hby3))
  have hg2' := HGW.out.tr hg2
  have hg3 : Grew w W3 := grown_at hg2' hby3 (by rw [HXB.out]; omega) hg2'.size
  refine bodyPost_ret (rinp_ret rfl rfl hW3 rfl) rfl ?_
  rw [HIN.out]
  exact ⟨none, 0, 0, none, 0, 0, rfl, RdV.nil _ _ _, RdV.nil _ _ _, by omega, by omega, hg3⟩

set_option maxRecDepth 100000 in
set_option maxHeartbeats 6400000 in
theorem rinput_1 (se ti : Int) (me ur : ByteArray) (hs : List Hdr) (bo : ByteArray) (st co : Int) (cr : Bool) (no : ByteArray) (nn : Int) (A : Option Addr) (n c : Nat) (w : World) (hgd : goodE ⟨1, se, ti, me, ur, hs, bo, st, co, cr, no, nn⟩ = true) (hr : RdH w A n hs) (hn : n ≤ 1000) (hco : -9223372036854775808 ≤ co ∧ co ≤ 9223372036854775807) : RInpC ⟨1, se, ti, me, ur, hs, bo, st, co, cr, no, nn⟩ A n c w := by
  have hnn : nn = 0 := by
    have hgk : goodK ⟨1, se, ti, me, ur, hs, bo, st, co, cr, no, nn⟩ = true := by unfold goodE at hgd; exact (Bool.and_eq_true_iff.1 hgd).2
    simp [goodK] at hgk
    simp [hgk]
  subst hnn
  have hq : 0 ≤ co ∧ co ≤ 1000 := by
    have hgk : goodK ⟨1, se, ti, me, ur, hs, bo, st, co, cr, no, 0⟩ = true := by unfold goodE at hgd; exact (Bool.and_eq_true_iff.1 hgd).2
    have hm : modesB co = true := by simp [goodK] at hgk; simp [hgk]
    exact modesB_bd hm
  have hin : inE ⟨1, se, ti, me, ur, hs, bo, st, co, cr, no, 0⟩ = (⟨1, se, me, ur, co % 4, co / 4 % 4, co / 16 % 4, co / 64, no, hs, bo, 0, [], noT, 0⟩, true) := by
    unfold inE
    rw [if_neg (by rw [hgd]; simp)]
    simp

  have HIN := Lib.hid hin
  have hg := fun (u : World) (hu : Grew w u) => rgood_any ⟨1, se, ti, me, ur, hs, bo, st, co, cr, no, 0⟩ A n c u (hr.keep hu) hn hco
  rw [hgd] at hg
  have HG := Lib.hid hg
  have HR := Lib.hid hr
  have HRQ := Lib.hid (fun (u : World) => rrequest_any ⟨1, se, ti, me, ur, hs, bo, st, co, cr, no, 0⟩ A n c u hq.1 hq.2)
  clear hin hg hgd hr hco hq
  show Calls _ _ _ _ _
  go_enter Try.func37, Try.ntmps37
  go_upto_region 2 with fail
  have hx0 := heap_keep (((Grew.rf _).al (.cells #[.int .i64 0, .int .i64 0, .string { data := #[] }, .string { data := #[] }, .int .i64 0, .int .i64 0, .int .i64 0, .int .i64 0, .string { data := #[] }, .slice none 0 0, .string { data := #[] }, .int .i64 0, .slice none 0 0, .string { data := #[] }, .int .u64 0] 76)).al (.cells #[.int .i64 0, .int .i64 0, .string { data := #[] }, .string { data := #[] }, .int .i64 0, .int .i64 0, .int .i64 0, .int .i64 0, .string { data := #[] }, .slice none 0 0, .string { data := #[] }, .int .i64 0, .slice none 0 0, .string { data := #[] }, .int .u64 0] 76)) (heap_alloc_new w (evO ⟨1, se, ti, me, ur, hs, bo, st, co, cr, no, 0⟩ A n c))
  have hr0 := heap_keep ((Grew.rf _).al (.cells #[.int .i64 0, .int .i64 0, .string { data := #[] }, .string { data := #[] }, .int .i64 0, .int .i64 0, .int .i64 0, .int .i64 0, .string { data := #[] }, .slice none 0 0, .string { data := #[] }, .int .i64 0, .slice none 0 0, .string { data := #[] }, .int .u64 0] 76)) (heap_alloc_new (w.alloc (evO ⟨1, se, ti, me, ur, hs, bo, st, co, cr, no, 0⟩ A n c)) (.cells #[.int .i64 0, .int .i64 0, .string { data := #[] }, .string { data := #[] }, .int .i64 0, .int .i64 0, .int .i64 0, .int .i64 0, .string { data := #[] }, .slice none 0 0, .string { data := #[] }, .int .i64 0, .slice none 0 0, .string { data := #[] }, .int .u64 0] 76))
  have hz0 := heap_alloc_new ((w.alloc (evO ⟨1, se, ti, me, ur, hs, bo, st, co, cr, no, 0⟩ A n c)).alloc (.cells #[.int .i64 0, .int .i64 0, .string { data := #[] }, .string { data := #[] }, .int .i64 0, .int .i64 0, .int .i64 0, .int .i64 0, .string { data := #[] }, .slice none 0 0, .string { data := #[] }, .int .i64 0, .slice none 0 0, .string { data := #[] }, .int .u64 0] 76)) (.cells #[.int .i64 0, .int .i64 0, .string { data := #[] }, .string { data := #[] }, .int .i64 0, .int .i64 0, .int .i64 0, .int .i64 0, .string { data := #[] }, .slice none 0 0, .string { data := #[] }, .int .i64 0, .slice none 0 0, .string { data := #[] }, .int .u64 0] 76)
  have hgW : Grew w (((w.alloc (evO ⟨1, se, ti, me, ur, hs, bo, st, co, cr, no, 0⟩ A n c)).alloc (.cells #[.int .i64 0, .int .i64 0, .string { data := #[] }, .string { data := #[] }, .int .i64 0, .int .i64 0, .int .i64 0, .int .i64 0, .string { data := #[] }, .slice none 0 0, .string { data := #[] }, .int .i64 0, .slice none 0 0, .string { data := #[] }, .int .u64 0] 76)).alloc (.cells #[.int .i64 0, .int .i64 0, .string { data := #[] }, .string { data := #[] }, .int .i64 0, .int .i64 0, .int .i64 0, .int .i64 0, .string { data := #[] }, .slice none 0 0, .string { data := #[] }, .int .i64 0, .slice none 0 0, .string { data := #[] }, .int .u64 0] 76)) := (((Grew.rf w).al _).al _).al _
  rw [World.size_alloc] at hr0
  rw [World.size_alloc, World.size_alloc] at hz0
  simp only [evO, evA] at hx0 hr0 hz0 hgW
  generalize ((w.alloc (.cells #[.int .i64 1, .int .i64 se, .int .i64 ti, .string me, .string ur, .slice A n c, .string bo, .int .i64 st, .int .i64 co, .bool cr, .string no, .int .u64 0] 34)).alloc (.cells #[.int .i64 0, .int .i64 0, .string { data := #[] }, .string { data := #[] }, .int .i64 0, .int .i64 0, .int .i64 0, .int .i64 0, .string { data := #[] }, .slice none 0 0, .string { data := #[] }, .int .i64 0, .slice none 0 0, .string { data := #[] }, .int .u64 0] 76)).alloc (.cells #[.int .i64 0, .int .i64 0, .string { data := #[] }, .string { data := #[] }, .int .i64 0, .int .i64 0, .int .i64 0, .int .i64 0, .string { data := #[] }, .slice none 0 0, .string { data := #[] }, .int .i64 0, .slice none 0 0, .string { data := #[] }, .int .u64 0] 76) = W at *
  obtain ⟨xb, hxb⟩ : ∃ xb, w.heap.size = xb := ⟨_, rfl⟩
  rw [hxb] at hx0 hr0 hz0 ⊢
  have HXB := Lib.hid hxb
  have HX0 := Lib.hid hx0
  have HR0 := Lib.hid hr0
  have HZ0 := Lib.hid hz0
  have HGW := Lib.hid hgW
  clear hxb hx0 hr0 hz0 hgW
  have hx0 := HX0.out
  go_upto_region 6 with (first | ((with_reducible refine gate_ld' 34 (.tmp 1) rfl ?_); refine ld_row (.inl rfl) rfl rfl hx0 rfl Try.underlying34 (by kernel_rfl) ?_) | (go_at_call 39; refine Calls.mono (HG.out _ HGW.out) ?_; rintro e w2 ⟨rfl, hg2⟩; have hr2 := heap_keep hg2 HR0.out; have hz2 := heap_keep hg2 HZ0.out; have hx2 := heap_keep hg2 hx0; have c0 : w2.cell? ⟨xb, 0, none⟩ = some (.int .i64 1) := cell_of_heap hx2 rfl))
  have HX2 := Lib.hid hx2
  have HR2 := Lib.hid hr2
  have hg2' : Grew w w2 := HGW.out.tr hg2
  have HG2 := Lib.hid hg2'
  clear hr2 hz2 hx2 hx0 c0 hg2 hg2'
  refine region_split 5 [[], [(0, 14)], [], [(2, 16)], [(1, 15), (3, 17)], [(0, 14), (1, 15), (2, 16), (3, 17), (4, 18)], [(0, 14), (1, 15), (2, 16), (3, 17), (4, 18)]] [(0, 14), (1, 15), (2, 16), (3, 17), (4, 18)] (fun
    | 0 => .eqv (.pointer (some ⟨xb, 1, none⟩)) | 1 => .eqv (.int .i64 se) | 2 => .eqv (evV ⟨1, se, ti, me, ur, hs, bo, st, co, cr, no, 0⟩ A n c) | 3 => .eqv (rqV ⟨1, se, ti, me, ur, hs, bo, st, co, cr, no, 0⟩ A n c) | 4 => .eqv (.agg #[.int .i64 1, .int .i64 se, .string me, .string ur, .int .i64 (co % 4), .int .i64 (co / 4 % 4), .int .i64 (co / 16 % 4), .int .i64 (co / 64), .string no, .slice A n c, .string bo, .int .i64 0, .slice none 0 0, .string { data := #[] }, .int .u64 0]) | _ => .any) (by kernel_rfl) ?_ ?_
  · refine ⟨fun u hu => ?_, fun u hu => ?_, fun u hu => ?_, fun u hu => ?_, fun u hu => ?_, trivial⟩
    · refine StepGoal.nil ?_
      go_wp2
      exact ⟨rfl, rfl, Grew.rf _, rfl⟩
    · rintro _ rfl
      have hce : u.cell? ⟨xb, 1, none⟩ = some (.int .i64 se) := hu.ce (cell_of_heap HX2.out rfl)
      refine StepGoal.nil ?_
      simp only [Act.put, List.setIfInBounds_toArray, List.set_cons_zero, List.set_cons_succ]
      go_wp2
      exact ⟨rfl, rfl, Grew.rf _, rfl⟩
    · have hx3 := heap_keep hu HX2.out
      refine StepGoal.nil ?_
      go_wp2_with (refine ld_row (.inl rfl) rfl rfl hx3 rfl Try.underlying34 (by kernel_rfl) ?_)
      exact ⟨rfl, rfl, Grew.rf _, rfl⟩
    · rintro _ rfl
      refine StepGoal.nil ?_
      simp only [Act.put, List.setIfInBounds_toArray, List.set_cons_zero, List.set_cons_succ]
      go_wp2_with (go_at_call 69; refine Calls.mono (HRQ.out u) ?_; rintro e w3 ⟨rfl, hg3⟩)
      exact ⟨rfl, rfl, hg3, rfl⟩
    · rintro _ rfl _ rfl
      refine StepGoal.nil ?_
      simp only [Act.put, List.setIfInBounds_toArray, List.set_cons_zero, List.set_cons_succ]
      go_wp2
      exact ⟨rfl, rfl, Grew.rf _, rfl⟩
  · intro u hu
    rintro _ rfl _ rfl _ rfl _ rfl _ rfl
    refine StepGoal.nil ?_
    simp only [Act.put, List.setIfInBounds_toArray, List.set_cons_zero, List.set_cons_succ]; simp only [List.drop_succ_cons, List.drop_zero]
    have hr3 := heap_keep hu HR2.out
    have HU := Lib.hid (HG2.out.tr hu)
    clear hu
    go_wp2_with ((with_reducible refine gate_st 76 (.tmp 2) (.tmp 18) rfl ?_); refine st_row0 rfl rfl rfl rfl rfl hr3 (by kernel_rfl) rfl (by simp [Value.oneCell']) ?_; intro W3 hW3 hby3)
    have hg3 : Grew w W3 := grown_at HU.out hby3 (by rw [HXB.out]; omega) HU.out.size
    refine bodyPost_ret (rinp_ret rfl rfl hW3 rfl) rfl ?_
    rw [HIN.out]
    exact ⟨A, n, c, none, 0, 0, rfl, HR.out.keep hg3, RdV.nil _ _ _, hn, by omega, hg3⟩

theorem rinput_any (x : Ev) (A : Option Addr) (n c : Nat) (w : World) (hr : RdH w A n x.hs) (hn : n ≤ 1000) (hco : -9223372036854775808 ≤ x.co ∧ x.co ≤ 9223372036854775807) : RInpC x A n c w := by
  obtain ⟨ki, se, ti, me, ur, hs, bo, st, co, cr, no, nn⟩ := x
  cases hg : goodE ⟨ki, se, ti, me, ur, hs, bo, st, co, cr, no, nn⟩ with
  | false => exact rinput_bad _ _ _ _ _ _ _ _ _ _ _ _ _ _ _ _ hg hr hn hco
  | true =>
    by_cases h1 : ki = 1
    · subst h1; exact rinput_1 _ _ _ _ _ _ _ _ _ _ _ _ _ _ _ hg hr hn hco
    by_cases h3 : ki = 3
    · subst h3; exact rinput_3 _ _ _ _ _ _ _ _ _ _ _ _ _ _ _ hg hr hn hco
    by_cases h4 : ki = 4
    · subst h4; exact rinput_4 _ _ _ _ _ _ _ _ _ _ _ _ _ _ _ hg hr hn hco
    by_cases h5 : ki = 5
    · subst h5; exact rinput_5 _ _ _ _ _ _ _ _ _ _ _ _ _ _ _ hg hr hn hco
    by_cases h6 : ki = 6
    · subst h6; exact rinput_6 _ _ _ _ _ _ _ _ _ _ _ _ _ _ _ hg hr hn hco
    exact rinput_no _ _ _ _ _ _ _ _ _ _ _ _ _ _ _ _ h1 h3 h4 h5 h6 hg hr hn hco
end Go.Proofs.Ytbkcpgaicoagfaa
