/- Events in memory; events compared. -/
import Derived.Test.YtbkcpgaicoagfaaEg17
set_option linter.unusedVariables false
set_option linter.unusedSimpArgs false
namespace Go.Proofs.Ytbkcpgaicoagfaa
open Go.RowKit

/-- An event. -/
structure Ev where
  ki : Int
  se : Int
  ti : Int
  me : ByteArray
  ur : ByteArray
  hs : List Hdr
  bo : ByteArray
  st : Int
  co : Int
  cr : Bool
  no : ByteArray
  nn : Int
  deriving DecidableEq
abbrev evA (x : Ev) (A : Option Addr) (n c : Nat) : Array Value := #[.int .i64 x.ki, .int .i64 x.se, .int .i64 x.ti, .string x.me, .string x.ur, .slice A n c, .string x.bo, .int .i64 x.st, .int .i64 x.co, .bool x.cr, .string x.no, .int .u64 x.nn]
abbrev evV (x : Ev) (A : Option Addr) (n c : Nat) : Value := .agg (evA x A n c)
abbrev evO (x : Ev) (A : Option Addr) (n c : Nat) : Obj := .cells (evA x A n c) 34

theorem evToListT {a b : ByteArray} (h : a = b) : (a.toList == b.toList) = true := by simp [h]
theorem evToListF {a b : ByteArray} (h : ¬ a = b) : (a.toList == b.toList) = false := by
  have : ¬ a.toList = b.toList := fun e => by
    rw [ByteArray.toList_eq, ByteArray.toList_eq] at e
    exact h (ByteArray.ext (Array.toList_inj.1 e))
  simpa using this
/-- One by one, in the order of ref18. -/
def sameE (x y : Ev) : Bool := decide (x = y)

theorem sameE_eq (x y : Ev) : sameE x y = (x.ki == y.ki && (x.se == y.se && (x.ti == y.ti && ((x.me.toList == y.me.toList) && ((x.ur.toList == y.ur.toList) && (decide (x.hs = y.hs) && ((x.bo.toList == y.bo.toList) && (x.st == y.st && (x.co == y.co && (x.cr == y.cr && ((x.no.toList == y.no.toList) && x.nn == y.nn))))))))))) := by
  have hs : ∀ a b : ByteArray, (a.toList == b.toList) = decide (a = b) := fun a b => by
    by_cases h : a = b
    · rw [evToListT h, decide_eq_true h]
    · rw [evToListF h, decide_eq_false h]
  unfold sameE
  rw [hs, hs, hs, hs]
  obtain ⟨ki1, se1, ti1, me1, ur1, hs1, bo1, st1, co1, cr1, no1, nn1⟩ := x
  obtain ⟨ki2, se2, ti2, me2, ur2, hs2, bo2, st2, co2, cr2, no2, nn2⟩ := y
  rw [Bool.eq_iff_iff]
  simp

set_option maxRecDepth 100000 in
set_option maxHeartbeats 6400000 in
theorem sameEvent_any (x : Ev) (A : Option Addr) (n c : Nat) (y : Ev) (B : Option Addr) (m d : Nat) (w : World) (hA : RdH w A n x.hs) (hB : RdH w B m y.hs) (hn : n ≤ 1000) (hm : m ≤ 1000) :
    Calls Try.prog 19 #[evV x A n c, evV y B m d] w fun e w' => e = .returned (.bool (sameE x y)) ∧ Grew w w' := by
  have HD := Lib.hid (sameE_eq x y)
  obtain ⟨ki1, se1, ti1, me1, ur1, hs1, bo1, st1, co1, cr1, no1, nn1⟩ := x
  obtain ⟨ki2, se2, ti2, me2, ur2, hs2, bo2, st2, co2, cr2, no2, nn2⟩ := y
  dsimp only at hA hB HD
  have hsm := fun (u : World) (hu : Grew w u) => same_any A n c hs1 B m d hs2 u (hA.keep hu) (hB.keep hu) (by omega) (by omega)
  generalize decide (hs1 = hs2) = b5 at HD hsm
  have HSM := Lib.hid hsm
  clear hA hB hsm
  obtain ⟨b0, e0⟩ : ∃ b, (ki1 == ki2) = b := ⟨_, rfl⟩
  rw [e0] at HD
  obtain ⟨b1, e1⟩ : ∃ b, (se1 == se2) = b := ⟨_, rfl⟩
  rw [e1] at HD
  obtain ⟨b2, e2⟩ : ∃ b, (ti1 == ti2) = b := ⟨_, rfl⟩
  rw [e2] at HD
  obtain ⟨b3, e3⟩ : ∃ b, (me1.toList == me2.toList) = b := ⟨_, rfl⟩
  rw [e3] at HD
  obtain ⟨b4, e4⟩ : ∃ b, (ur1.toList == ur2.toList) = b := ⟨_, rfl⟩
  rw [e4] at HD
  obtain ⟨b6, e6⟩ : ∃ b, (bo1.toList == bo2.toList) = b := ⟨_, rfl⟩
  rw [e6] at HD
  obtain ⟨b7, e7⟩ : ∃ b, (st1 == st2) = b := ⟨_, rfl⟩
  rw [e7] at HD
  obtain ⟨b8, e8⟩ : ∃ b, (co1 == co2) = b := ⟨_, rfl⟩
  rw [e8] at HD
  obtain ⟨b9, e9⟩ : ∃ b, (cr1 == cr2) = b := ⟨_, rfl⟩
  rw [e9] at HD
  obtain ⟨b10, e10⟩ : ∃ b, (no1.toList == no2.toList) = b := ⟨_, rfl⟩
  rw [e10] at HD
  obtain ⟨b11, e11⟩ : ∃ b, (nn1 == nn2) = b := ⟨_, rfl⟩
  rw [e11] at HD
  go_enter Try.func19, Try.ntmps19
  go_wp2_with (go_at_call 35; refine Calls.mono (HSM.out _ (((Grew.rf w).al _).al _)) ?_; rintro e w2 ⟨rfl, hg2⟩; have HG2 := Lib.hid ((((Grew.rf w).al _).al _).tr hg2); have hp2 := heap_keep hg2 (heap_keep ((Grew.rf _).al (evO ⟨ki2, se2, ti2, me2, ur2, hs2, bo2, st2, co2, cr2, no2, nn2⟩ B m d)) (heap_alloc_new w (evO ⟨ki1, se1, ti1, me1, ur1, hs1, bo1, st1, co1, cr1, no1, nn1⟩ A n c))); have hp3 := heap_keep hg2 (heap_alloc_new (w.alloc (evO ⟨ki1, se1, ti1, me1, ur1, hs1, bo1, st1, co1, cr1, no1, nn1⟩ A n c)) (evO ⟨ki2, se2, ti2, me2, ur2, hs2, bo2, st2, co2, cr2, no2, nn2⟩ B m d)); rw [World.size_alloc] at hp3; have c6 : w2.cell? ⟨w.heap.size, 6, none⟩ = some (.string bo1) := cell_of_heap (i := 6) hp2 rfl; have d6 : w2.cell? ⟨w.heap.size + 1, 6, none⟩ = some (.string bo2) := cell_of_heap (i := 6) hp3 rfl; have c7 : w2.cell? ⟨w.heap.size, 7, none⟩ = some (.int .i64 st1) := cell_of_heap (i := 7) hp2 rfl; have d7 : w2.cell? ⟨w.heap.size + 1, 7, none⟩ = some (.int .i64 st2) := cell_of_heap (i := 7) hp3 rfl; have c8 : w2.cell? ⟨w.heap.size, 8, none⟩ = some (.int .i64 co1) := cell_of_heap (i := 8) hp2 rfl; have d8 : w2.cell? ⟨w.heap.size + 1, 8, none⟩ = some (.int .i64 co2) := cell_of_heap (i := 8) hp3 rfl; have c9 : w2.cell? ⟨w.heap.size, 9, none⟩ = some (.bool cr1) := cell_of_heap (i := 9) hp2 rfl; have d9 : w2.cell? ⟨w.heap.size + 1, 9, none⟩ = some (.bool cr2) := cell_of_heap (i := 9) hp3 rfl; have c10 : w2.cell? ⟨w.heap.size, 10, none⟩ = some (.string no1) := cell_of_heap (i := 10) hp2 rfl; have d10 : w2.cell? ⟨w.heap.size + 1, 10, none⟩ = some (.string no2) := cell_of_heap (i := 10) hp3 rfl; have c11 : w2.cell? ⟨w.heap.size, 11, none⟩ = some (.int .u64 nn1) := cell_of_heap (i := 11) hp2 rfl; have d11 : w2.cell? ⟨w.heap.size + 1, 11, none⟩ = some (.int .u64 nn2) := cell_of_heap (i := 11) hp3 rfl; clear hp2 hp3 hg2)
  all_goals first
    | (go_ret; refine ⟨congrArg (fun b => Ending.returned (Value.bool b)) ?_, HG2.out⟩; rw [HD.out]; simp [*]; done)
    | (go_ret; refine ⟨congrArg (fun b => Ending.returned (Value.bool b)) ?_, ((Grew.rf w).al _).al _⟩; rw [HD.out]; simp [*]; done)
end Go.Proofs.Ytbkcpgaicoagfaa
