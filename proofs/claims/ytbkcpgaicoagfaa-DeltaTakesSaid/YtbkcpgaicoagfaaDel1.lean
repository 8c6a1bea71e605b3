/- Delta: headers in memory; the walk of ends. -/
import Derived.Test.YtbkcpgaicoagfaaInt6
import Derived.Test.YtbkcpgaicoagfaaRegKill
import Derived.Test.YtbkcpgaicoagfaaPureDelta
import Derived.Laws.StructEq
set_option linter.unusedVariables false
set_option linter.unusedSimpArgs false
namespace Go.Proofs.Ytbkcpgaicoagfaa
open Go.RowKit

/-- Headers' cells. -/
def hcs (l : List Hdr) : List Value := l.flatMap fun h => [.string h.1, .string h.2]
theorem hcs_len (l : List Hdr) : (hcs l).length = l.length * 2 := by
  induction l with
  | nil => rfl
  | cons h l ih => simp only [hcs, List.flatMap_cons, List.length_append, List.length_cons] at ih ⊢; simp at ih ⊢; omega
theorem hcs_append (l m : List Hdr) : hcs (l ++ m) = hcs l ++ hcs m := by simp [hcs]
theorem hcs_one (l : List Hdr) : ∀ u ∈ hcs l, u.oneCell' = true := by
  intro u hu
  obtain ⟨h, _, hm⟩ := List.mem_flatMap.1 hu
  simp at hm
  rcases hm with rfl | rfl <;> rfl
theorem hcs_get : ∀ {l : List Hdr} {j : Nat} {h : Hdr}, l[j]? = some h → (hcs l)[j * 2]? = some (.string h.1) ∧ (hcs l)[j * 2 + 1]? = some (.string h.2)
  | [], j, h, e => by simp at e
  | x :: l, 0, h, e => by simp at e; subst e; simp [hcs]
  | x :: l, j + 1, h, e => by
    have := hcs_get (l := l) (j := j) (h := h) (by simpa using e)
    have e1 : hcs (x :: l) = .string x.1 :: .string x.2 :: hcs l := rfl
    rw [e1, show (j + 1) * 2 = j * 2 + 1 + 1 by omega, List.getElem?_cons_succ, List.getElem?_cons_succ, List.getElem?_cons_succ, List.getElem?_cons_succ]
    exact this
/-- A slice that reads as headers. -/
abbrev RdH (w : World) (A : Option Addr) (n : Nat) (l : List Hdr) : Prop := RdV 2 w A n (hcs l)
theorem RdV.lenH {w : World} {A : Option Addr} {n : Nat} {l : List Hdr} (h : RdH w A n l) : l.length = n := by
  have := h.len
  rw [hcs_len] at this
  omega
theorem RdV.atH {w : World} {A : Option Addr} {n : Nat} {l : List Hdr} (h : RdH w A n l) {j : Nat} (hj : j < n) : ∃ b o x, A = some ⟨b, o, none⟩ ∧ l[j]? = some x ∧ w.cell? ⟨b, o + j * 2, none⟩ = some (.string x.1) ∧ w.cell? ⟨b, o + j * 2 + 1, none⟩ = some (.string x.2) := by
  obtain ⟨b, o, e, hc⟩ := h.cells (by omega)
  have hx : l[j]? = some (l[j]'(by rw [h.lenH]; exact hj)) := List.getElem?_eq_getElem _
  have := hcs_get hx
  exact ⟨b, o, _, e, hx, hc _ _ this.1, by rw [Nat.add_assoc]; exact hc _ _ this.2⟩

/-! ### Two headers compared -/
theorem hdr_guard (op : BinOp) (a b : Operand) (xs ys : Array Value) (w : World) : (eqGuard op 124 a b (.agg xs) (.agg ys)).run Try.prog w = .ok () w := run_eqGuard_agg w op 124 a b xs ys (by kernel_rfl)
theorem toList_eq_iff (a b : ByteArray) : a.toList = b.toList ↔ a = b := ⟨fun e => by
  rw [ByteArray.toList_eq, ByteArray.toList_eq] at e
  exact ByteArray.ext (Array.toList_inj.1 e), fun e => by rw [e]⟩
theorem hdr_eqIn (x y : Hdr) (w : World) : (Op.equalIn 10000 124 (.agg #[.string x.1, .string x.2]) (.agg #[.string y.1, .string y.2])).run Try.prog w = .ok (decide (x = y)) w := by
  have hS : Try.prog.underlying 124 = some (.struct (Try.prog.fieldsOf 124)) := by kernel_rfl
  have hp : Try.prog.stoodInHeld 124 = false := by kernel_rfl
  have a9 := Try.isAgg9
  have z9 := Try.sizeOf9
  have u9 := Try.underlying9
  rw [show (10000 : Nat) = 9999 + 1 from rfl, run_equalIn_agg w 9999 124 _ _ hS hp]
  simp only [Program.fieldsOf, Try.underlying124]
  go_simp
  obtain ⟨x1, x2⟩ := x
  obtain ⟨y1, y2⟩ := y
  by_cases h1 : x1 = y1 <;> by_cases h2 : x2 = y2 <;> simp [h1, h2, toList_eq_iff]
theorem hdr_eql (x y : Hdr) (w : World) : (binOp .eql 124 (.agg #[.string x.1, .string x.2]) (.agg #[.string y.1, .string y.2])).run Try.prog w = .ok (.bool (decide (x = y))) w := by
  rw [run_eql_struct, hdr_eqIn]; rfl

set_option maxRecDepth 100000 in
set_option maxHeartbeats 1600000 in
theorem ends_any (A : Option Addr) (n c : Nat) (was : List Hdr) (B : Option Addr) (m d : Nat) (list : List Hdr) (w : World) (hr : RdH w A n was) (hs : RdH w B m list) (hn : n ≤ 9223372036854775807) (hm : m ≤ 9223372036854775807) :
    Calls Try.prog 60 #[.slice A n c, .slice B m d] w fun e w' => e = .returned (.tuple #[.int .i64 (endsA was list : Int), .int .i64 (endsB was list : Int)]) ∧ Grew w w' := by
  have hl1 := hr.lenH
  have hl2 := hs.lenH
  have HR := Lib.hid hr
  have HS := Lib.hid hs
  have HL1 := Lib.hid hl1
  have HL2 := Lib.hid hl2
  clear hr hs hl1 hl2
  go_enter Try.func60, Try.ntmps60
  go_upto_region 1 with fail
  go_cut [6] from 7 to 11 (fun f wx => f = .int .i64 ((min n m : Nat) : Int) ∧ w = wx)
  case first =>
    go_wp2_with fail
    all_goals
      go_meet
      case rel => exact ⟨by congr 1; omega, rfl⟩
  case rest =>
  obtain ⟨rfl, rfl⟩ := hcut
  obtain ⟨q, hq⟩ : ∃ q, min n m = q := ⟨_, rfl⟩
  have hqn : q ≤ n ∧ q ≤ m ∧ (q < n → q = m) := by omega
  rw [hq]
  have HQ := Lib.hid hqn
  clear hq hqn
  go_upto_block 0 with fail
  go_cut [4] (fun f wx => f = .int .i64 (endsA was list : Int) ∧ Grew w wx)
  case first =>
    go_wp2_with fail
    go_loopg [4] q (fun g s4 wx => ∃ j : Nat, j ≤ q ∧ g = q - j ∧ s4 = .int .i64 (j : Int) ∧ Grew w wx ∧ ∀ k, k < j → was[k]? = list[k]?)
    case atStart => exact ⟨0, Nat.zero_le _, rfl, rfl, Grew.rf _, fun k hk => by omega⟩
    case round =>
      obtain ⟨j, h1, rfl, rfl, hg, hI⟩ := hrel
      have HI := Lib.hid hI
      clear hI
      by_cases hlt : j < q
      · have hj1 : j < n := by have := HQ.out; omega
        have hj2 : j < m := by have := HQ.out; omega
        obtain ⟨b1, o1, x, hA, hx, ha1, ha2⟩ := HR.out.atH hj1
        obtain ⟨b2, o2, y, hB, hy, hb1, hb2⟩ := HS.out.atH hj2
        subst hA; subst hB
        have ca1 := hg.ce ha1
        have ca2 := hg.ce ha2
        have cb1 := hg.ce hb1
        have cb2 := hg.ce hb2
        have HX := Lib.hid hx
        have HY := Lib.hid hy
        clear hx hy ha1 ha2 hb1 hb2
        have hdd : decide ((j : Int) < (q : Int)) = true := by simp; omega
        have hgd := hdr_guard
        have hbe := fun w => hdr_eql x y w
        have hbi := fun w => hdr_eqIn x y w
        go_wp2_with fail
        go_quiet (fail)
        clear hbe hbi hgd
        by_cases hxy : x = y
        · have hdx : decide (x = y) = true := decide_eq_true hxy
          rw [hdx]
          go_wp2
          go_roundg (q - (j + 1))
          case measure => omega
          case rel =>
            refine ⟨j + 1, by omega, rfl, by go_num, hg.drN _, fun k hk => ?_⟩
            by_cases hkj : k = j
            · subst hkj; rw [HX.out, HY.out, hxy]
            · exact HI.out k (by omega)
        · have hdx : decide (x = y) = false := decide_eq_false hxy
          rw [hdx]
          go_wp2
          go_meet
          refine ⟨?_, hg.drN _⟩
          rw [endsA_eq (j := j) (by rw [HL1.out]; omega) (by rw [HL2.out]; omega) HI.out (fun _ _ => by rw [HX.out, HY.out]; simpa using hxy)]
      · have hdd : decide ((j : Int) < (q : Int)) = false := by simp; omega
        go_wp2_with fail
        go_quiet (fail)
        go_wp2
        go_meet
        refine ⟨?_, hg.drN _⟩
        have := HQ.out
        rw [endsA_eq (j := j) (by rw [HL1.out]; omega) (by rw [HL2.out]; omega) HI.out (fun h2 h3 => by rw [HL1.out] at h2; rw [HL2.out] at h3; omega)]
  case rest =>
  obtain ⟨rfl, hg1⟩ := hcut
  obtain ⟨f, hf⟩ : ∃ f, endsA was list = f := ⟨_, rfl⟩
  have hfl := endsA_le was list
  rw [HL1.out, HL2.out] at hfl
  rw [hf] at hfl ⊢
  have hfq : f ≤ q := by have := HQ.out; omega
  have HF := Lib.hid hf
  clear hf hfl
  go_upto_block 2 with fail
  go_cut [5] (fun f wx => f = .int .i64 (endsB was list : Int) ∧ Grew w wx)
  case first =>
    go_wp2_with fail
    go_loopg [5] q (fun g s4 wx => ∃ j : Nat, j + f ≤ q ∧ g = q - j ∧ s4 = .int .i64 (j : Int) ∧ Grew w wx ∧ ∀ k, k < j → was[was.length - 1 - k]? = list[list.length - 1 - k]?)
    case atStart => exact ⟨0, by omega, rfl, rfl, hg1, fun k hk => by omega⟩
    case round =>
      obtain ⟨j, h1, rfl, rfl, hg, hI⟩ := hrel
      have HI := Lib.hid hI
      clear hI
      obtain ⟨r, hr⟩ : ∃ r, q - f = r := ⟨_, rfl⟩
      have hw0 : IntKind.i64.wrap ((q : Int) - (f : Int)) = (r : Int) := by
        rw [IntWalk.i64_in _ ⟨by omega, by have := HQ.out; omega⟩]; omega
      by_cases hlt : j < r
      · have hq' := HQ.out
        obtain ⟨n', hn'⟩ : ∃ n', n - 1 = n' := ⟨_, rfl⟩
        obtain ⟨m', hm'⟩ : ∃ m', m - 1 = m' := ⟨_, rfl⟩
        obtain ⟨i1, hi1⟩ : ∃ i1, n' - j = i1 := ⟨_, rfl⟩
        obtain ⟨i2, hi2⟩ : ∃ i2, m' - j = i2 := ⟨_, rfl⟩
        have hw1 : IntKind.i64.wrap ((n : Int) - 1) = (n' : Int) := by
          rw [IntWalk.i64_in _ ⟨by omega, by omega⟩]; omega
        have hw2 : IntKind.i64.wrap ((n' : Int) - (j : Int)) = (i1 : Int) := by
          rw [IntWalk.i64_in _ ⟨by omega, by omega⟩]; omega
        have hw3 : IntKind.i64.wrap ((m : Int) - 1) = (m' : Int) := by
          rw [IntWalk.i64_in _ ⟨by omega, by omega⟩]; omega
        have hw4 : IntKind.i64.wrap ((m' : Int) - (j : Int)) = (i2 : Int) := by
          rw [IntWalk.i64_in _ ⟨by omega, by omega⟩]; omega
        have hjb : j + 1 ≤ 9223372036854775807 := by omega
        have hj1 : i1 < n := by omega
        have hj2 : i2 < m := by omega
        have hk1 : n - 1 - j = i1 := by omega
        have hk2 : m - 1 - j = i2 := by omega
        have HK1 := Lib.hid hk1
        have HK2 := Lib.hid hk2
        have HJ : RowKit.Hid (j + 1 + f ≤ q ∧ j + 1 + f ≤ n ∧ j + 1 + f ≤ m) := ⟨by omega, by omega, by omega⟩
        clear hk1 hk2 hn' hm' hi1 hi2 hq' hr
        obtain ⟨b1, o1, x, hA, hx, ha1, ha2⟩ := HR.out.atH hj1
        obtain ⟨b2, o2, y, hB, hy, hb1, hb2⟩ := HS.out.atH hj2
        subst hA; subst hB
        have ca1 := hg.ce ha1
        have ca2 := hg.ce ha2
        have cb1 := hg.ce hb1
        have cb2 := hg.ce hb2
        have HX := Lib.hid hx
        have HY := Lib.hid hy
        clear hx hy ha1 ha2 hb1 hb2
        have hdd : decide ((j : Int) < (r : Int)) = true := by simp; omega
        have hgd := hdr_guard
        have hbe := fun w => hdr_eql x y w
        have hbi := fun w => hdr_eqIn x y w
        go_wp2_with fail
        go_quiet (fail)
        clear hbe hbi hgd hw0 hw1 hw2 hw3 hw4
        by_cases hxy : x = y
        · have hdx : decide (x = y) = true := decide_eq_true hxy
          rw [hdx]
          go_wp2
          go_roundg (q - (j + 1))
          case measure => have := HJ.out; omega
          case rel =>
            refine ⟨j + 1, by have := HJ.out; omega, rfl, by go_num, hg.drN _, fun k hk => ?_⟩
            by_cases hkj : k = j
            · subst hkj; rw [HL1.out, HL2.out, HK1.out, HK2.out, HX.out, HY.out, hxy]
            · exact HI.out k (by omega)
        · have hdx : decide (x = y) = false := decide_eq_false hxy
          rw [hdx]
          go_wp2
          go_meet
          refine ⟨?_, hg.drN _⟩
          have := HJ.out
          rw [endsB_eq (j := j) HF.out (by rw [HL1.out]; omega) (by rw [HL2.out]; omega) HI.out (fun _ _ => by rw [HL1.out, HL2.out, HK1.out, HK2.out, HX.out, HY.out]; simpa using hxy)]
      · have hdd : decide ((j : Int) < (q : Int) - (f : Int)) = false := by simp; omega
        have HRR := Lib.hid hr
        clear hr
        go_wp2_with fail
        go_quiet (fail)
        go_wp2
        go_meet
        refine ⟨?_, hg.drN _⟩
        have := HQ.out
        have := HRR.out
        rw [endsB_eq (j := j) HF.out (by rw [HL1.out]; omega) (by rw [HL2.out]; omega) HI.out (fun h2 h3 => by rw [HL1.out] at h2; rw [HL2.out] at h3; omega)]
  case rest =>
  obtain ⟨rfl, hg2⟩ := hcut
  go_wp2
  go_ret2
  exact ⟨by rw [HF.out]; rfl, hg2⟩
end Go.Proofs.Ytbkcpgaicoagfaa
