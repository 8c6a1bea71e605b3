/- Memo: entries in memory, compared; thing. -/
import Derived.Test.YtcllmhabhbnihaaRegKill
set_option linter.unusedVariables false
set_option linter.unusedSimpArgs false
namespace Go.Proofs.Ytcllmhabhbnihaa
open Go.RowKit

/-- An entry: from, URL, credentials, method, header, until. -/
abbrev Ask := ByteArray × ByteArray × Bool × ByteArray × ByteArray × Int
abbrev Ask.fr (x : Ask) : ByteArray := x.1
abbrev Ask.ur (x : Ask) : ByteArray := x.2.1
abbrev Ask.cr (x : Ask) : Bool := x.2.2.1
abbrev Ask.me (x : Ask) : ByteArray := x.2.2.2.1
abbrev Ask.hd (x : Ask) : ByteArray := x.2.2.2.2.1
abbrev Ask.un (x : Ask) : Int := x.2.2.2.2.2
def av (x : Ask) : List Value := [.string x.1, .string x.2.1, .bool x.2.2.1, .string x.2.2.2.1, .string x.2.2.2.2.1, .int .i64 x.2.2.2.2.2]
def acs (l : List Ask) : List Value := l.flatMap av
theorem acs_len (l : List Ask) : (acs l).length = l.length * 6 := by
  induction l with
  | nil => rfl
  | cons h l ih => simp only [acs, List.flatMap_cons, List.length_append, List.length_cons] at ih ⊢; simp [av] at ih ⊢; omega
theorem acs_append (l m : List Ask) : acs (l ++ m) = acs l ++ acs m := by simp [acs]
theorem acs_one (l : List Ask) : ∀ u ∈ acs l, u.oneCell' = true := by
  intro u hu
  obtain ⟨h, _, hm⟩ := List.mem_flatMap.1 hu
  simp [av] at hm
  rcases hm with rfl | rfl | rfl | rfl | rfl | rfl <;> rfl
theorem acs_get : ∀ {l : List Ask} {j k : Nat} {h : Ask} {v : Value}, l[j]? = some h → (av h)[k]? = some v → (acs l)[j * 6 + k]? = some v
  | [], j, k, h, v, e, _ => by simp at e
  | x :: l, 0, k, h, v, e, hv => by
    simp at e
    subst e
    have : acs (x :: l) = av x ++ acs l := by simp [acs]
    rw [this, Nat.zero_mul, Nat.zero_add, List.getElem?_append_left (List.getElem?_eq_some_iff.1 hv).1]
    exact hv
  | x :: l, j + 1, k, h, v, e, hv => by
    have := acs_get (l := l) (j := j) (k := k) (h := h) (v := v) (by simpa using e) hv
    have e1 : acs (x :: l) = av x ++ acs l := by simp [acs]
    have e2 : (av x).length = 6 := rfl
    rw [e1, List.getElem?_append_right (by omega), e2, show (j + 1) * 6 + k - 6 = j * 6 + k by omega]
    exact this
/-- A slice that reads as entries. -/
abbrev RdA (w : World) (A : Option Addr) (n : Nat) (l : List Ask) : Prop := RdV 6 w A n (acs l)
theorem RdV.lenA {w : World} {A : Option Addr} {n : Nat} {l : List Ask} (h : RdA w A n l) : l.length = n := by
  have := h.len
  rw [acs_len] at this
  omega
/-- The six cells of an entry. -/
structure SixC (w : World) (b o : Nat) (x : Ask) : Prop where
  c0 : w.cell? ⟨b, o, none⟩ = some (.string x.1)
  c1 : w.cell? ⟨b, o + 1, none⟩ = some (.string x.2.1)
  c2 : w.cell? ⟨b, o + 2, none⟩ = some (.bool x.2.2.1)
  c3 : w.cell? ⟨b, o + 3, none⟩ = some (.string x.2.2.2.1)
  c4 : w.cell? ⟨b, o + 4, none⟩ = some (.string x.2.2.2.2.1)
  c5 : w.cell? ⟨b, o + 5, none⟩ = some (.int .i64 x.2.2.2.2.2)
theorem SixC.keep {w w' : World} {b o : Nat} {x : Ask} (h : SixC w b o x) (hg : Grew w w') : SixC w' b o x := ⟨hg.ce h.c0, hg.ce h.c1, hg.ce h.c2, hg.ce h.c3, hg.ce h.c4, hg.ce h.c5⟩
theorem SixC.chg {F : Nat → Prop} {w w' : World} {b o : Nat} {x : Ask} (h : SixC w b o x) (hg : Chg F w w') (hF : ¬ F b) : SixC w' b o x :=
  have hb := hg.block b (lt_of_cell h.c0) hF
  ⟨(World.cell?_of_block hb).trans h.c0, (World.cell?_of_block hb).trans h.c1, (World.cell?_of_block hb).trans h.c2, (World.cell?_of_block hb).trans h.c3, (World.cell?_of_block hb).trans h.c4, (World.cell?_of_block hb).trans h.c5⟩
theorem RdV.atA {w : World} {A : Option Addr} {n : Nat} {l : List Ask} (h : RdA w A n l) {j : Nat} (hj : j < n) : ∃ b o x, A = some ⟨b, o, none⟩ ∧ l[j]? = some x ∧ SixC w b (o + j * 6) x := by
  obtain ⟨b, o, e, hc⟩ := h.cells (by omega)
  have hx : l[j]? = some (l[j]'(by rw [h.lenA]; exact hj)) := List.getElem?_eq_getElem _
  have g := fun (k : Nat) (v : Value) (hv : (av (l[j]'(by rw [h.lenA]; exact hj)))[k]? = some v) => hc (j * 6 + k) v (acs_get hx hv)
  refine ⟨b, o, _, e, hx, ⟨g 0 _ rfl, ?_, ?_, ?_, ?_, ?_⟩⟩
  · have := g 1 _ rfl; rw [← Nat.add_assoc] at this; exact this
  · have := g 2 _ rfl; rw [← Nat.add_assoc] at this; exact this
  · have := g 3 _ rfl; rw [← Nat.add_assoc] at this; exact this
  · have := g 4 _ rfl; rw [← Nat.add_assoc] at this; exact this
  · have := g 5 _ rfl; rw [← Nat.add_assoc] at this; exact this
theorem six_new (w : World) (x : Ask) (t : TypeId) : SixC (w.alloc (.cells #[.string x.1, .string x.2.1, .bool x.2.2.1, .string x.2.2.2.1, .string x.2.2.2.2.1, .int .i64 x.2.2.2.2.2] t)) w.heap.size 0 x := by
  have hh := heap_alloc_new w (.cells #[.string x.1, .string x.2.1, .bool x.2.2.1, .string x.2.2.2.1, .string x.2.2.2.2.1, .int .i64 x.2.2.2.2.2] t)
  exact ⟨cell_of_heap hh rfl, cell_of_heap hh rfl, cell_of_heap hh rfl, cell_of_heap hh rfl, cell_of_heap hh rfl, cell_of_heap hh rfl⟩

/-! ### Entries compared -/
theorem toList_eq_iff (a b : ByteArray) : a.toList = b.toList ↔ a = b := ⟨fun e => by
  rw [ByteArray.toList_eq, ByteArray.toList_eq] at e
  exact ByteArray.ext (Array.toList_inj.1 e), fun e => by rw [e]⟩
abbrev aV (x : Ask) : Value := .agg #[.string x.1, .string x.2.1, .bool x.2.2.1, .string x.2.2.2.1, .string x.2.2.2.2.1, .int .i64 x.2.2.2.2.2]
theorem ask_guard (op : BinOp) (a b : Operand) (xs ys : Array Value) (w : World) : (eqGuard op 32 a b (.agg xs) (.agg ys)).run Try.prog w = .ok () w := run_eqGuard_agg w op 32 a b xs ys (by kernel_rfl)
set_option maxHeartbeats 1600000 in
theorem ask_eqIn (x y : Ask) (w : World) : (Op.equalIn 10000 32 (aV x) (aV y)).run Try.prog w = .ok (decide (x = y)) w := by
  have hS : Try.prog.underlying 32 = some (.struct (Try.prog.fieldsOf 32)) := by kernel_rfl
  have hp : Try.prog.stoodInHeld 32 = false := by kernel_rfl
  have a9 := Try.isAgg9
  have z9 := Try.sizeOf9
  have u9 := Try.underlying9
  have a3 := Try.isAgg3
  have z3 := Try.sizeOf3
  have u3 := Try.underlying3
  have a4 := Try.isAgg4
  have z4 := Try.sizeOf4
  have u4 := Try.underlying4
  rw [show (10000 : Nat) = 9999 + 1 from rfl, run_equalIn_agg w 9999 32 _ _ hS hp]
  simp only [Program.fieldsOf, Try.underlying32]
  go_simp
  obtain ⟨x1, x2, x3, x4, x5, x6⟩ := x
  obtain ⟨y1, y2, y3, y4, y5, y6⟩ := y
  simp only
  by_cases h1 : x1 = y1
  · by_cases h2 : x2 = y2
    · by_cases h3 : x3 = y3
      · by_cases h4 : x4 = y4
        · by_cases h5 : x5 = y5
          · by_cases h6 : x6 = y6 <;> simp [h1, h2, h3, h4, h5, h6, toList_eq_iff]
          · simp [h1, h2, h3, h4, h5, toList_eq_iff]
        · simp [h1, h2, h3, h4, toList_eq_iff]
      · simp [h1, h2, h3, toList_eq_iff]
    · simp [h1, h2, toList_eq_iff]
  · simp [h1, toList_eq_iff]
theorem ask_eql (x y : Ask) (w : World) : (binOp .eql 32 (aV x) (aV y)).run Try.prog w = .ok (.bool (decide (x = y))) w := by
  rw [run_eql_struct, ask_eqIn]; rfl
theorem ask_neq (x y : Ask) (w : World) : (binOp .neq 32 (aV x) (aV y)).run Try.prog w = .ok (.bool (!decide (x = y))) w := by
  rw [run_neq_struct, ask_eqIn]; rfl

/-- What an entry is of. -/
def thA (x : Ask) : Ask := (x.1, x.2.1, x.2.2.1, x.2.2.2.1, x.2.2.2.2.1, 0)
theorem thing_any (x : Ask) (w : World) :
    Calls Try.prog 24 #[aV x] w fun e w' => e = .returned (aV (thA x)) ∧ Grew w w' := by
  go_enter Try.func24, Try.ntmps24
  go_wp2
  exact bodyPost_ret (v := aV (thA x)) (by simp [results, Try.results24, go_sem, thA]) rfl ⟨rfl, ((Grew.rf w).al _).al _⟩

/-! ### The closures -/
theorem put1_any (xb : Nat) (x y : Ask) (w : World) (hx : SixC w xb 0 x) :
    Calls Try.prog 23 #[aV y, .pointer (some ⟨xb, 0, none⟩)] w fun e w' => e = .returned (.bool (decide (thA x = thA y))) ∧ Grew w w' := by
  have HX := Lib.hid hx
  clear hx
  have htx := fun (u : World) => thing_any x u
  have hty := fun (u : World) => thing_any y u
  have HTX := Lib.hid htx
  have HTY := Lib.hid hty
  clear htx hty
  go_enter Try.func23, Try.ntmps23
  go_wp2
  have hy := six_new w y 32
  obtain ⟨hb, hhb⟩ : ∃ hb, w.heap.size = hb := ⟨_, rfl⟩
  obtain ⟨W1, hW1⟩ : ∃ W1, w.alloc (.cells #[.string y.1, .string y.2.1, .bool y.2.2.1, .string y.2.2.2.1, .string y.2.2.2.2.1, .int .i64 y.2.2.2.2.2] 32) = W1 := ⟨_, rfl⟩
  have hg1 : Grew w W1 := by rw [← hW1]; exact (Grew.rf w).al _
  rw [hhb, hW1] at hy ⊢
  have HY := Lib.hid hy
  have HG1 := Lib.hid hg1
  clear hW1 hhb hy hg1
  refine region_grew [[], [(0, 4)], [], [(2, 6)], [(1, 5), (3, 7)], [(4, 8)]] [(0, 4), (1, 5), (2, 6), (3, 7), (4, 8), (5, 3)] (fun
    | 0 => .eqv (aV x) | 1 => .eqv (aV (thA x)) | 2 => .eqv (aV y) | 3 => .eqv (aV (thA y)) | 4 => .eqv (.bool (decide (thA x = thA y))) | 5 => .eqv (.bool (decide (thA x = thA y))) | _ => .any) (by kernel_rfl) ?_ ?_
  · refine ⟨fun u hu => ?_, fun u hu => ?_, fun u hu => ?_, fun u hu => ?_, fun u hu => ?_, fun u hu => ?_, trivial⟩
    · have h6 := (HX.out.keep HG1.out).keep hu; obtain ⟨c0, c1, c2, c3, c4, c5⟩ := h6
      refine StepGoal.nil ?_
      go_wp2
      exact ⟨rfl, rfl, Grew.rf _, rfl⟩
    · rintro _ rfl
      refine StepGoal.nil ?_
      simp only [Act.put, List.setIfInBounds_toArray, List.set_cons_zero, List.set_cons_succ]
      go_wp2_with (go_at_call 24; refine Calls.mono (HTX.out _) ?_; rintro e w' ⟨rfl, hg⟩)
      exact ⟨rfl, rfl, hg, rfl⟩
    · have h6 := HY.out.keep hu; obtain ⟨c0, c1, c2, c3, c4, c5⟩ := h6
      refine StepGoal.nil ?_
      go_wp2
      exact ⟨rfl, rfl, Grew.rf _, rfl⟩
    · rintro _ rfl
      refine StepGoal.nil ?_
      simp only [Act.put, List.setIfInBounds_toArray, List.set_cons_zero, List.set_cons_succ]
      go_wp2_with (go_at_call 24; refine Calls.mono (HTY.out _) ?_; rintro e w' ⟨rfl, hg⟩)
      exact ⟨rfl, rfl, hg, rfl⟩
    · rintro _ rfl _ rfl
      have hgd := ask_guard; have hbe := fun w => ask_eql (thA x) (thA y) w; have hbi := fun w => ask_eqIn (thA x) (thA y) w
      refine StepGoal.nil ?_
      simp only [Act.put, List.setIfInBounds_toArray, List.set_cons_zero, List.set_cons_succ]
      go_wp2
      exact ⟨rfl, rfl, Grew.rf _, rfl⟩
    · rintro _ rfl
      refine StepGoal.nil ?_
      simp only [Act.put, List.setIfInBounds_toArray, List.set_cons_zero, List.set_cons_succ]
      go_wp2
      exact ⟨rfl, rfl, Grew.rf _, rfl⟩
  · intro u hu
    rintro _ rfl _ rfl _ rfl _ rfl _ rfl _ rfl
    refine StepGoal.nil ?_
    simp only [Act.put, List.setIfInBounds_toArray, List.set_cons_zero, List.set_cons_succ]
    go_wp2
    go_ret
    exact ⟨rfl, HG1.out.tr hu⟩
theorem put2_any (nb : Nat) (now : Int) (y : Ask) (w : World) (hx : w.cell? ⟨nb, 0, none⟩ = some (.int .i64 now)) :
    Calls Try.prog 25 #[aV y, .pointer (some ⟨nb, 0, none⟩)] w fun e w' => e = .returned (.bool (decide (y.2.2.2.2.2 ≤ now))) ∧ Grew w w' := by
  have hx' := ((Grew.rf w).al (.cells #[.string y.1, .string y.2.1, .bool y.2.2.1, .string y.2.2.2.1, .string y.2.2.2.2.1, .int .i64 y.2.2.2.2.2] 32)).ce hx
  go_enter Try.func25, Try.ntmps25
  go_wp2
  go_ret
  exact ⟨rfl, (Grew.rf w).al _⟩
theorem drop1_any (fb ub : Nat) (fr ur : ByteArray) (y : Ask) (w : World) (hf : w.cell? ⟨fb, 0, none⟩ = some (.string fr)) (hu : w.cell? ⟨ub, 0, none⟩ = some (.string ur)) :
    Calls Try.prog 18 #[aV y, .pointer (some ⟨fb, 0, none⟩), .pointer (some ⟨ub, 0, none⟩)] w fun e w' => e = .returned (.bool (decide (y.1 = fr ∧ y.2.1 = ur))) ∧ Grew w w' := by
  have hf' := ((Grew.rf w).al (.cells #[.string y.1, .string y.2.1, .bool y.2.2.1, .string y.2.2.2.1, .string y.2.2.2.2.1, .int .i64 y.2.2.2.2.2] 32)).ce hf
  have hu' := ((Grew.rf w).al (.cells #[.string y.1, .string y.2.1, .bool y.2.2.1, .string y.2.2.2.1, .string y.2.2.2.2.1, .int .i64 y.2.2.2.2.2] 32)).ce hu
  by_cases h1 : y.1 = fr
  · have e1 : (y.1.toList == fr.toList) = true := by simp [h1]
    by_cases h2 : y.2.1 = ur
    · have e2 : (y.2.1.toList == ur.toList) = true := by simp [h2]
      have HD : RowKit.Hid (decide (y.1 = fr ∧ y.2.1 = ur) = true) := decide_eq_true ⟨h1, h2⟩
      clear h1 h2
      go_enter Try.func18, Try.ntmps18
      go_wp2
      go_ret
      exact ⟨by rw [HD.out]; rfl, (Grew.rf w).al _⟩
    · have e2 : (y.2.1.toList == ur.toList) = false := by simpa [toList_eq_iff] using h2
      have HD : RowKit.Hid (decide (y.1 = fr ∧ y.2.1 = ur) = false) := decide_eq_false (fun h => h2 h.2)
      clear h1 h2
      go_enter Try.func18, Try.ntmps18
      go_wp2
      go_ret
      exact ⟨by rw [HD.out]; rfl, (Grew.rf w).al _⟩
  · have e1 : (y.1.toList == fr.toList) = false := by simpa [toList_eq_iff] using h1
    have HD : RowKit.Hid (decide (y.1 = fr ∧ y.2.1 = ur) = false) := decide_eq_false (fun h => h1 h.1)
    clear h1
    go_enter Try.func18, Try.ntmps18
    go_wp2
    go_ret
    exact ⟨by rw [HD.out]; rfl, (Grew.rf w).al _⟩
end Go.Proofs.Ytcllmhabhbnihaa
