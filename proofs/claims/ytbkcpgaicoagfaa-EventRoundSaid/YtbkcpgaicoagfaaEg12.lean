/- Delta: lists of headers, plainly. -/
import Derived.Test.YtbkcpgaicoagfaaEg6
import Derived.Test.YtbkcpgaicoagfaaEg9
import Derived.Test.YtbkcpgaicoagfaaEg11
import Derived.Laws.StructEq
set_option linter.unusedVariables false
set_option linter.unusedSimpArgs false
namespace Go.Proofs.Ytbkcpgaicoagfaa

abbrev Hdr := ByteArray × ByteArray
/-- How many headers two lists begin with alike. -/
def endsA : List Hdr → List Hdr → Nat
  | a :: r, b :: q => if a = b then endsA r q + 1 else 0
  | _, _ => 0
/-- How many, behind these, they end with alike. -/
def endsB (a b : List Hdr) : Nat := endsA (a.drop (endsA a b)).reverse (b.drop (endsA a b)).reverse
theorem endsA_le : ∀ (a b : List Hdr), endsA a b ≤ a.length ∧ endsA a b ≤ b.length
  | [], b => by simp [endsA]
  | _ :: _, [] => by simp [endsA]
  | x :: r, y :: q => by
    have := endsA_le r q
    rw [endsA]
    split <;> simp <;> omega
theorem endsA_get : ∀ {a b : List Hdr} {k : Nat}, k < endsA a b → a[k]? = b[k]?
  | [], b, k, h => by simp [endsA] at h
  | _ :: _, [], k, h => by simp [endsA] at h
  | x :: r, y :: q, k, h => by
    rw [endsA] at h
    split at h
    · rename_i e
      cases k with
      | zero => simp [e]
      | succ k =>
        rw [List.getElem?_cons_succ, List.getElem?_cons_succ]
        exact endsA_get (by omega)
    · omega
theorem endsA_eq : ∀ {a b : List Hdr} {j : Nat}, j ≤ a.length → j ≤ b.length → (∀ k, k < j → a[k]? = b[k]?) → (j < a.length → j < b.length → a[j]? ≠ b[j]?) → endsA a b = j
  | [], b, j, h1, h2, h3, h4 => by simp at h1; simp [endsA, h1]
  | _ :: _, [], j, h1, h2, h3, h4 => by simp at h2; simp [endsA, h2]
  | x :: r, y :: q, j, h1, h2, h3, h4 => by
    rw [endsA]
    cases j with
    | zero =>
      have := h4 (by simp) (by simp)
      simp at this
      rw [if_neg this]
    | succ j =>
      have h0 := h3 0 (by omega)
      simp at h0
      rw [if_pos h0, endsA_eq (j := j) (by simpa using h1) (by simpa using h2) (fun k hk => by have := h3 (k + 1) (by omega); simpa using this) (fun ha hb => by have := h4 (by simpa using ha) (by simpa using hb); simpa using this)]
theorem rev_drop_get {α : Type} (a : List α) (f k : Nat) (h : k < a.length - f) : (a.drop f).reverse[k]? = a[a.length - 1 - k]? := by
  rw [List.getElem?_reverse (by rw [List.length_drop]; exact h), List.length_drop, List.getElem?_drop]
  congr 1
  omega
theorem endsB_le (a b : List Hdr) : endsA a b + endsB a b ≤ a.length ∧ endsA a b + endsB a b ≤ b.length := by
  have h1 := endsA_le a b
  have h2 := endsA_le (a.drop (endsA a b)).reverse (b.drop (endsA a b)).reverse
  simp only [List.length_reverse, List.length_drop] at h2
  unfold endsB
  omega
theorem endsB_eq {a b : List Hdr} {f j : Nat} (hf : endsA a b = f) (h1 : j + f ≤ a.length) (h2 : j + f ≤ b.length) (h3 : ∀ k, k < j → a[a.length - 1 - k]? = b[b.length - 1 - k]?) (h4 : j + f < a.length → j + f < b.length → a[a.length - 1 - j]? ≠ b[b.length - 1 - j]?) : endsB a b = j := by
  unfold endsB
  rw [hf]
  refine endsA_eq (by simp; omega) (by simp; omega) (fun k hk => ?_) (fun ha hb => ?_)
  · rw [rev_drop_get _ _ _ (by omega), rev_drop_get _ _ _ (by omega)]
    exact h3 k hk
  · simp at ha hb
    rw [rev_drop_get _ _ _ (by omega), rev_drop_get _ _ _ (by omega)]
    exact h4 (by omega) (by omega)

/-- The new headers' bytes, and the texts behind. -/
def putFs : List ByteArray → List Hdr → List Int × List ByteArray
  | ts, [] => ([], ts)
  | ts, h :: r =>
    let p := putT ts h.1
    let q := putT p.2 h.2
    let z := putFs q.2 r
    (p.1 ++ (q.1 ++ z.1), z.2)
theorem putFs_snoc : ∀ (l : List Hdr) (ts : List ByteArray) (h : Hdr), putFs ts (l ++ [h]) = ((putFs ts l).1 ++ ((putT (putFs ts l).2 h.1).1 ++ (putT (putT (putFs ts l).2 h.1).2 h.2).1), (putT (putT (putFs ts l).2 h.1).2 h.2).2)
  | [], ts, h => by simp [putFs]
  | x :: l, ts, h => by
    rw [List.cons_append, putFs, putFs_snoc l, putFs]
    simp
theorem putT_len2 (ts : List ByteArray) (s : ByteArray) (hs : s.size ≤ 1000000) (hl : ts.length ≤ 1000000) : (putT ts s).1.length ≤ 20 + s.size ∧ ts.length ≤ (putT ts s).2.length ∧ (putT ts s).2.length ≤ ts.length + 1 := by
  unfold putT
  have h0 := leb_len (v := (0 : Int)) (by omega)
  have h1 := leb_len (v := (s.size : Int)) (by omega)
  have hle := idxT_le ts s
  have h2 := leb_len (v := (idxT ts s : Int)) (by omega)
  split
  · simp only [List.length_append, bsOf_len, List.length_singleton]; omega
  · simp only; omega
theorem putFs_len : ∀ (l : List Hdr) (ts : List ByteArray), (∀ h ∈ l, h.1.size ≤ 10000 ∧ h.2.size ≤ 10000) → ts.length + 2 * l.length ≤ 1000000 → (putFs ts l).1.length ≤ 20040 * l.length ∧ ts.length ≤ (putFs ts l).2.length ∧ (putFs ts l).2.length ≤ ts.length + 2 * l.length
  | [], ts, _, _ => by simp [putFs]
  | x :: l, ts, h, hl => by
    rw [List.length_cons] at hl
    have hx := h x (List.mem_cons_self ..)
    have h1 := putT_len2 ts x.1 (by omega) (by omega)
    have h2 := putT_len2 (putT ts x.1).2 x.2 (by omega) (by omega)
    have h3 := putFs_len l (putT (putT ts x.1).2 x.2).2 (fun y hy => h y (List.mem_cons_of_mem _ hy)) (by omega)
    rw [putFs]
    simp only [List.length_append, List.length_cons]
    omega
def pre3 (f g q : Nat) : Nat → List Int
  | 0 => []
  | 1 => leb (f : Int)
  | 2 => leb (f : Int) ++ leb (g : Int)
  | _ => leb (f : Int) ++ (leb (g : Int) ++ leb (q : Int))
def freshD (was list : List Hdr) : List Hdr := (list.take (list.length - endsB was list)).drop (endsA was list)
theorem freshD_len (was list : List Hdr) : (freshD was list).length = list.length - endsA was list - endsB was list := by
  have := endsB_le was list
  unfold freshD
  rw [List.length_drop, List.length_take]
  omega
/-- A list's bytes, from another one on, and the texts behind. -/
def putD (ts : List ByteArray) (was list : List Hdr) : List Int × List ByteArray :=
  (leb (endsA was list : Int) ++ (leb (endsB was list : Int) ++ (leb ((freshD was list).length : Int) ++ (putFs ts (freshD was list)).1)), (putFs ts (freshD was list)).2)
/-- So many new headers. -/
def takeFs (b : List Int) : Nat → List ByteArray → Int → List Hdr × Int × Int × List ByteArray
  | 0, ts, at_ => ([], at_, 0, ts)
  | n + 1, ts, at_ =>
    let r := takeT ts b at_
    if r.2.2.1 ≠ 0 then ([], 0, r.2.2.1, r.2.2.2)
    else
      let q := takeT r.2.2.2 b r.2.1
      if q.2.2.1 ≠ 0 then ([], 0, q.2.2.1, q.2.2.2)
      else
        let z := takeFs b n q.2.2.2 q.2.1
        if z.2.2.1 ≠ 0 then ([], 0, z.2.2.1, z.2.2.2) else ((r.1, q.1) :: z.1, z.2.1, 0, z.2.2.2)
def preFs (l : List Hdr) (z : List Hdr × Int × Int × List ByteArray) : List Hdr × Int × Int × List ByteArray :=
  if z.2.2.1 ≠ 0 then ([], 0, z.2.2.1, z.2.2.2) else (l ++ z.1, z.2.1, 0, z.2.2.2)
theorem takeT_ok2 {ts : List ByteArray} {b : List Int} {at_ : Int} (hb : Byt b) : 0 ≤ (takeT ts b at_).2.1 ∧ (takeT ts b at_).2.1 ≤ b.length ∧ ts.length ≤ (takeT ts b at_).2.2.2.length ∧ (takeT ts b at_).2.2.2.length ≤ ts.length + 1 := by
  unfold takeT
  obtain ⟨⟨v, n, e⟩, h⟩ : ∃ r, lebTake b at_ = r := ⟨_, rfl⟩
  simp only [h]
  split
  · simp
  · rename_i he
    have he : e = 0 := by simpa using he
    subst he
    obtain ⟨a1, a2, a3, _, _, _⟩ := lebTake_exact hb h
    split
    · simp
    · split
      · refine ⟨?_, ?_, ?_, ?_⟩ <;> simp only <;> omega
      · obtain ⟨⟨v2, n2, e2⟩, h2⟩ : ∃ r, lebTake b n = r := ⟨_, rfl⟩
        simp only [h2]
        split
        · simp
        · rename_i he2
          have he2 : e2 = 0 := by simpa using he2
          subst he2
          obtain ⟨b1, b2, b3, _, b5, b6⟩ := lebTake_exact hb h2
          split
          · simp
          · split
            · simp
            · split
              · simp only [List.length_append, List.length_singleton]; omega
              · simp
theorem preFs_nil (z : List Hdr × Int × Int × List ByteArray) (h : z.2.2.1 ≠ 0 → z.1 = [] ∧ z.2.1 = 0) : preFs [] z = z := by
  obtain ⟨l, a, e, t⟩ := z
  unfold preFs
  simp only at h ⊢
  split
  · rename_i h0
    obtain ⟨rfl, rfl⟩ := h h0
    rfl
  · rename_i h0
    have : e = 0 := by simpa using h0
    subst this
    rfl
theorem preFs_preFs (l m : List Hdr) (z : List Hdr × Int × Int × List ByteArray) : preFs l (preFs m z) = preFs (l ++ m) z := by
  obtain ⟨x, a, e, t⟩ := z
  unfold preFs
  simp only
  by_cases h : e = 0
  · simp [h]
  · simp [h]
theorem takeFs_err (b : List Int) : ∀ (n : Nat) (ts : List ByteArray) (a : Int), (takeFs b n ts a).2.2.1 ≠ 0 → (takeFs b n ts a).1 = [] ∧ (takeFs b n ts a).2.1 = 0
  | 0, ts, a, h => by simp [takeFs] at h
  | n + 1, ts, a, h => by
    rw [takeFs] at h ⊢
    simp only at h ⊢
    split
    · exact ⟨rfl, rfl⟩
    · rename_i h1
      rw [if_neg h1] at h
      split
      · exact ⟨rfl, rfl⟩
      · rename_i h2
        rw [if_neg h2] at h
        split
        · exact ⟨rfl, rfl⟩
        · rename_i h3
          rw [if_neg h3] at h
          simp at h
theorem takeFs_e1 {b : List Int} {n : Nat} {ts ts1 : List ByteArray} {a nx er : Int} {s : ByteArray} (h : takeT ts b a = (s, nx, er, ts1)) (he : er ≠ 0) : takeFs b (n + 1) ts a = ([], 0, er, ts1) := by
  rw [takeFs, h]
  simp only
  rw [if_pos he]
theorem takeFs_e2 {b : List Int} {n : Nat} {ts ts1 ts2 : List ByteArray} {a nx nx2 er : Int} {s s2 : ByteArray} (h : takeT ts b a = (s, nx, 0, ts1)) (h2 : takeT ts1 b nx = (s2, nx2, er, ts2)) (he : er ≠ 0) : takeFs b (n + 1) ts a = ([], 0, er, ts2) := by
  rw [takeFs, h]
  simp only
  rw [if_neg (by simp), h2]
  simp only
  rw [if_pos he]
theorem takeFs_ok {b : List Int} {n : Nat} {ts ts1 ts2 : List ByteArray} {a nx nx2 : Int} {s s2 : ByteArray} (h : takeT ts b a = (s, nx, 0, ts1)) (h2 : takeT ts1 b nx = (s2, nx2, 0, ts2)) : takeFs b (n + 1) ts a = preFs [(s, s2)] (takeFs b n ts2 nx2) := by
  rw [takeFs, h]
  simp only
  rw [if_neg (by simp), h2]
  simp only
  rw [if_neg (by simp)]
  rfl
theorem takeFs_len {b : List Int} (hb : Byt b) : ∀ (n : Nat) (ts : List ByteArray) (a : Int), ts.length ≤ (takeFs b n ts a).2.2.2.length ∧ (takeFs b n ts a).2.2.2.length ≤ ts.length + 2 * n ∧ ((takeFs b n ts a).2.2.1 = 0 → (takeFs b n ts a).1.length = n)
  | 0, ts, a => by simp [takeFs]
  | n + 1, ts, a => by
    obtain ⟨⟨s, nx, er, ts1⟩, h1⟩ : ∃ r, takeT ts b a = r := ⟨_, rfl⟩
    have k1 := takeT_ok2 (ts := ts) (at_ := a) hb
    rw [h1] at k1
    simp only at k1
    by_cases e1 : er = 0
    · subst e1
      obtain ⟨⟨s2, nx2, er2, ts2⟩, h2⟩ : ∃ r, takeT ts1 b nx = r := ⟨_, rfl⟩
      have k2 := takeT_ok2 (ts := ts1) (at_ := nx) hb
      rw [h2] at k2
      simp only at k2
      by_cases e2 : er2 = 0
      · subst e2
        have k3 := takeFs_len hb n ts2 nx2
        rw [takeFs_ok h1 h2]
        unfold preFs
        split
        · rename_i h0
          exact ⟨by simp only; omega, by simp only; omega, fun h => absurd h h0⟩
        · rename_i h0
          have h0 : (takeFs b n ts2 nx2).2.2.1 = 0 := by simpa using h0
          refine ⟨by simp only; omega, by simp only; omega, fun _ => ?_⟩
          simp only [List.length_append, List.length_singleton, k3.2.2 h0]
          omega
      · rw [takeFs_e2 h1 h2 e2]
        exact ⟨by simp only; omega, by simp only; omega, fun h => absurd h e2⟩
    · rw [takeFs_e1 h1 e1]
      exact ⟨by simp only; omega, by simp only; omega, fun h => absurd h e1⟩
/-- The list that stands at a place, from another one on. -/
def takeD (ts : List ByteArray) (b : List Int) (at_ : Int) (was : List Hdr) : List Hdr × Int × Int × List ByteArray :=
  let r0 := lebTake b at_
  if r0.2.2 ≠ 0 then ([], 0, r0.2.2, ts)
  else
    let r1 := lebTake b r0.2.1
    if r1.2.2 ≠ 0 then ([], 0, r1.2.2, ts)
    else
      let r2 := lebTake b r1.2.1
      if r2.2.2 ≠ 0 then ([], 0, r2.2.2, ts)
      else if (was.length : Int) < r0.1 + r1.1 then ([], 0, 5, ts)
      else if 25 < r0.1 + r1.1 + r2.1 then ([], 0, 2, ts)
      else
        let z := takeFs b r2.1.toNat ts r2.2.1
        if z.2.2.1 ≠ 0 then ([], 0, z.2.2.1, z.2.2.2)
        else
          let out := was.take r0.1.toNat ++ (z.1 ++ was.drop (was.length - r1.1.toNat))
          if endsA was out ≠ r0.1.toNat ∨ endsB was out ≠ r1.1.toNat then ([], 0, 4, z.2.2.2)
          else (out, z.2.1, 0, z.2.2.2)
end Go.Proofs.Ytbkcpgaicoagfaa
/- Delta: headers in memory; the walk of ends. -/
set_option linter.unusedVariables false
set_option linter.unusedSimpArgs false
namespace Go.Proofs.Ytbkcpgaicoagfaa
open Go.RowKit

/-- Headers' cells. -/
def hcs (l : List Hdr) : List Value := l.flatMap fun h => [.string h.1, .string h.2]
theorem hcs_len (l : List Hdr) : (hcs l).length = l.length * 2 := by
  induction l with
  | nil => rfl
  | cons h l ih => simp only [hcs, List.flatMap_cons, List.length_append, List.length_cons] at ih ⊢; simp at ih ⊢; omega
theorem hcs_append (l m : List Hdr) : hcs (l ++ m) = hcs l ++ hcs m := by simp [hcs]
theorem hcs_one (l : List Hdr) : ∀ u ∈ hcs l, u.oneCell' = true := by
  intro u hu
  obtain ⟨h, _, hm⟩ := List.mem_flatMap.1 hu
  simp at hm
  rcases hm with rfl | rfl <;> rfl
theorem hcs_get : ∀ {l : List Hdr} {j : Nat} {h : Hdr}, l[j]? = some h → (hcs l)[j * 2]? = some (.string h.1) ∧ (hcs l)[j * 2 + 1]? = some (.string h.2)
  | [], j, h, e => by simp at e
  | x :: l, 0, h, e => by simp at e; subst e; simp [hcs]
  | x :: l, j + 1, h, e => by
    have := hcs_get (l := l) (j := j) (h := h) (by simpa using e)
    have e1 : hcs (x :: l) = .string x.1 :: .string x.2 :: hcs l := rfl
    rw [e1, show (j + 1) * 2 = j * 2 + 1 + 1 by omega, List.getElem?_cons_succ, List.getElem?_cons_succ, List.getElem?_cons_succ, List.getElem?_cons_succ]
    exact this
/-- A slice that reads as headers. -/
abbrev RdH (w : World) (A : Option Addr) (n : Nat) (l : List Hdr) : Prop := RdV 2 w A n (hcs l)
theorem RdV.lenH {w : World} {A : Option Addr} {n : Nat} {l : List Hdr} (h : RdH w A n l) : l.length = n := by
  have := h.len
  rw [hcs_len] at this
  omega
theorem RdV.atH {w : World} {A : Option Addr} {n : Nat} {l : List Hdr} (h : RdH w A n l) {j : Nat} (hj : j < n) : ∃ b o x, A = some ⟨b, o, none⟩ ∧ l[j]? = some x ∧ w.cell? ⟨b, o + j * 2, none⟩ = some (.string x.1) ∧ w.cell? ⟨b, o + j * 2 + 1, none⟩ = some (.string x.2) := by
  obtain ⟨b, o, e, hc⟩ := h.cells (by omega)
  have hx : l[j]? = some (l[j]'(by rw [h.lenH]; exact hj)) := List.getElem?_eq_getElem _
  have := hcs_get hx
  exact ⟨b, o, _, e, hx, hc _ _ this.1, by rw [Nat.add_assoc]; exact hc _ _ this.2⟩

/-! ### Two headers compared -/
theorem hdr_guard (op : BinOp) (a b : Operand) (xs ys : Array Value) (w : World) : (eqGuard op 124 a b (.agg xs) (.agg ys)).run Try.prog w = .ok () w := run_eqGuard_agg w op 124 a b xs ys (by kernel_rfl)
theorem toList_eq_iff (a b : ByteArray) : a.toList = b.toList ↔ a = b := ⟨fun e => by
  rw [ByteArray.toList_eq, ByteArray.toList_eq] at e
  exact ByteArray.ext (Array.toList_inj.1 e), fun e => by rw [e]⟩
theorem hdr_eqIn (x y : Hdr) (w : World) : (Op.equalIn 10000 124 (.agg #[.string x.1, .string x.2]) (.agg #[.string y.1, .string y.2])).run Try.prog w = .ok (decide (x = y)) w := by
  have hS : Try.prog.underlying 124 = some (.struct (Try.prog.fieldsOf 124)) := by kernel_rfl
  have hp : Try.prog.stoodInHeld 124 = false := by kernel_rfl
  have a9 := Try.isAgg9
  have z9 := Try.sizeOf9
  have u9 := Try.underlying9
  rw [show (10000 : Nat) = 9999 + 1 from rfl, run_equalIn_agg w 9999 124 _ _ hS hp]
  simp only [Program.fieldsOf, Try.underlying124]
  go_simp
  obtain ⟨x1, x2⟩ := x
  obtain ⟨y1, y2⟩ := y
  by_cases h1 : x1 = y1 <;> by_cases h2 : x2 = y2 <;> simp [h1, h2, toList_eq_iff]
theorem hdr_eql (x y : Hdr) (w : World) : (binOp .eql 124 (.agg #[.string x.1, .string x.2]) (.agg #[.string y.1, .string y.2])).run Try.prog w = .ok (.bool (decide (x = y))) w := by
  rw [run_eql_struct, hdr_eqIn]; rfl

set_option maxRecDepth 100000 in
set_option maxHeartbeats 1600000 in
theorem ends_any (A : Option Addr) (n c : Nat) (was : List Hdr) (B : Option Addr) (m d : Nat) (list : List Hdr) (w : World) (hr : RdH w A n was) (hs : RdH w B m list) (hn : n ≤ 9223372036854775807) (hm : m ≤ 9223372036854775807) :
    Calls Try.prog 60 #[.slice A n c, .slice B m d] w fun e w' => e = .returned (.tuple #[.int .i64 (endsA was list : Int), .int .i64 (endsB was list : Int)]) ∧ Grew w w' := by
  have hl1 := hr.lenH
  have hl2 := hs.lenH
  have HR := Lib.hid hr
  have HS := Lib.hid hs
  have HL1 := Lib.hid hl1
  have HL2 := Lib.hid hl2
  clear hr hs hl1 hl2
  go_enter Try.func60, Try.ntmps60
  go_upto_region 1 with fail
  go_cut [6] from 7 to 11 (fun f wx => f = .int .i64 ((min n m : Nat) : Int) ∧ w = wx)
  case first =>
    go_wp2_with fail
    all_goals
      go_meet
      case rel => exact ⟨by congr 1; omega, rfl⟩
  case rest =>
  obtain ⟨rfl, rfl⟩ := hcut
  obtain ⟨q, hq⟩ : ∃ q, min n m = q := ⟨_, rfl⟩
  have hqn : q ≤ n ∧ q ≤ m ∧ (q < n → q = m) := by omega
  rw [hq]
  have HQ := Lib.hid hqn
  clear hq hqn
  go_upto_block 0 with fail
  go_cut [4] (fun f wx => f = .int .i64 (endsA was list : Int) ∧ Grew w wx)
  case first =>
    go_wp2_with fail
    go_loopg [4] q (fun g s4 wx => ∃ j : Nat, j ≤ q ∧ g = q - j ∧ s4 = .int .i64 (j : Int) ∧ Grew w wx ∧ ∀ k, k < j → was[k]? = list[k]?)
    case atStart => exact ⟨0, Nat.zero_le _, rfl, rfl, Grew.rf _, fun k hk => by omega⟩
    case round =>
      obtain ⟨j, h1, rfl, rfl, hg, hI⟩ := hrel
      have HI := Lib.hid hI
      clear hI
      by_cases hlt : j < q
      · have hj1 : j < n := by have := HQ.out; omega
        have hj2 : j < m := by have := HQ.out; omega
        obtain ⟨b1, o1, x, hA, hx, ha1, ha2⟩ := HR.out.atH hj1
        obtain ⟨b2, o2, y, hB, hy, hb1, hb2⟩ := HS.out.atH hj2
        subst hA; subst hB
        have ca1 := hg.ce ha1
        have ca2 := hg.ce ha2
        have cb1 := hg.ce hb1
        have cb2 := hg.ce hb2
        have HX := Lib.hid hx
        have HY := Lib.hid hy
        clear hx hy ha1 ha2 hb1 hb2
        have hdd : decide ((j : Int) < (q : Int)) = true := by simp; omega
        have hgd := hdr_guard
        have hbe := fun w => hdr_eql x y w
        have hbi := fun w => hdr_eqIn x y w
        go_wp2_with fail
        go_quiet (fail)
        clear hbe hbi hgd
        by_cases hxy : x = y
        · have hdx : decide (x = y) = true := decide_eq_true hxy
          rw [hdx]
          go_wp2
          go_roundg (q - (j + 1))
          case measure => omega
          case rel =>
            refine ⟨j + 1, by omega, rfl, by go_num, hg.drN _, fun k hk => ?_⟩
            by_cases hkj : k = j
            · subst hkj; rw [HX.out, HY.out, hxy]
            · exact HI.out k (by omega)
        · have hdx : decide (x = y) = false := decide_eq_false hxy
          rw [hdx]
          go_wp2
          go_meet
          refine ⟨?_, hg.drN _⟩
          rw [endsA_eq (j := j) (by rw [HL1.out]; omega) (by rw [HL2.out]; omega) HI.out (fun _ _ => by rw [HX.out, HY.out]; simpa using hxy)]
      · have hdd : decide ((j : Int) < (q : Int)) = false := by simp; omega
        go_wp2_with fail
        go_quiet (fail)
        go_wp2
        go_meet
        refine ⟨?_, hg.drN _⟩
        have := HQ.out
        rw [endsA_eq (j := j) (by rw [HL1.out]; omega) (by rw [HL2.out]; omega) HI.out (fun h2 h3 => by rw [HL1.out] at h2; rw [HL2.out] at h3; omega)]
  case rest =>
  obtain ⟨rfl, hg1⟩ := hcut
  obtain ⟨f, hf⟩ : ∃ f, endsA was list = f := ⟨_, rfl⟩
  have hfl := endsA_le was list
  rw [HL1.out, HL2.out] at hfl
  rw [hf] at hfl ⊢
  have hfq : f ≤ q := by have := HQ.out; omega
  have HF := Lib.hid hf
  clear hf hfl
  go_upto_block 2 with fail
  go_cut [5] (fun f wx => f = .int .i64 (endsB was list : Int) ∧ Grew w wx)
  case first =>
    go_wp2_with fail
    go_loopg [5] q (fun g s4 wx => ∃ j : Nat, j + f ≤ q ∧ g = q - j ∧ s4 = .int .i64 (j : Int) ∧ Grew w wx ∧ ∀ k, k < j → was[was.length - 1 - k]? = list[list.length - 1 - k]?)
    case atStart => exact ⟨0, by omega, rfl, rfl, hg1, fun k hk => by omega⟩
    case round =>
      obtain ⟨j, h1, rfl, rfl, hg, hI⟩ := hrel
      have HI := Lib.hid hI
      clear hI
      obtain ⟨r, hr⟩ : ∃ r, q - f = r := ⟨_, rfl⟩
      have hw0 : IntKind.i64.wrap ((q : Int) - (f : Int)) = (r : Int) := by
        rw [IntWalk.i64_in _ ⟨by omega, by have := HQ.out; omega⟩]; omega
      by_cases hlt : j < r
      · have hq' := HQ.out
        obtain ⟨n', hn'⟩ : ∃ n', n - 1 = n' := ⟨_, rfl⟩
        obtain ⟨m', hm'⟩ : ∃ m', m - 1 = m' := ⟨_, rfl⟩
        obtain ⟨i1, hi1⟩ : ∃ i1, n' - j = i1 := ⟨_, rfl⟩
        obtain ⟨i2, hi2⟩ : ∃ i2, m' - j = i2 := ⟨_, rfl⟩
        have hw1 : IntKind.i64.wrap ((n : Int) - 1) = (n' : Int) := by
          rw [IntWalk.i64_in _ ⟨by omega, by omega⟩]; omega
        have hw2 : IntKind.i64.wrap ((n' : Int) - (j : Int)) = (i1 : Int) := by
          rw [IntWalk.i64_in _ ⟨by omega, by omega⟩]; omega
        have hw3 : IntKind.i64.wrap ((m : Int) - 1) = (m' : Int) := by
          rw [IntWalk.i64_in _ ⟨by omega, by omega⟩]; omega
        have hw4 : IntKind.i64.wrap ((m' : Int) - (j : Int)) = (i2 : Int) := by
          rw [IntWalk.i64_in _ ⟨by omega, by omega⟩]; omega
        have hjb : j + 1 ≤ 9223372036854775807 := by omega
        have hj1 : i1 < n := by omega
        have hj2 : i2 < m := by omega
        have hk1 : n - 1 - j = i1 := by omega
        have hk2 : m - 1 - j = i2 := by omega
        have HK1 := Lib.hid hk1
        have HK2 := Lib.hid hk2
        have HJ : RowKit.Hid (j + 1 + f ≤ q ∧ j + 1 + f ≤ n ∧ j + 1 + f ≤ m) := ⟨by omega, by omega, by omega⟩
        clear hk1 hk2 hn' hm' hi1 hi2 hq' hr
        obtain ⟨b1, o1, x, hA, hx, ha1, ha2⟩ := HR.out.atH hj1
        obtain ⟨b2, o2, y, hB, hy, hb1, hb2⟩ := HS.out.atH hj2
        subst hA; subst hB
        have ca1 := hg.ce ha1
        have ca2 := hg.ce ha2
        have cb1 := hg.ce hb1
        have cb2 := hg.ce hb2
        have HX := Lib.hid hx
        have HY := Lib.hid hy
        clear hx hy ha1 ha2 hb1 hb2
        have hdd : decide ((j : Int) < (r : Int)) = true := by simp; omega
        have hgd := hdr_guard
        have hbe := fun w => hdr_eql x y w
        have hbi := fun w => hdr_eqIn x y w
        go_wp2_with fail
        go_quiet (fail)
        clear hbe hbi hgd hw0 hw1 hw2 hw3 hw4
        by_cases hxy : x = y
        · have hdx : decide (x = y) = true := decide_eq_true hxy
          rw [hdx]
          go_wp2
          go_roundg (q - (j + 1))
          case measure => have := HJ.out; omega
          case rel =>
            refine ⟨j + 1, by have := HJ.out; omega, rfl, by go_num, hg.drN _, fun k hk => ?_⟩
            by_cases hkj : k = j
            · subst hkj; rw [HL1.out, HL2.out, HK1.out, HK2.out, HX.out, HY.out, hxy]
            · exact HI.out k (by omega)
        · have hdx : decide (x = y) = false := decide_eq_false hxy
          rw [hdx]
          go_wp2
          go_meet
          refine ⟨?_, hg.drN _⟩
          have := HJ.out
          rw [endsB_eq (j := j) HF.out (by rw [HL1.out]; omega) (by rw [HL2.out]; omega) HI.out (fun _ _ => by rw [HL1.out, HL2.out, HK1.out, HK2.out, HX.out, HY.out]; simpa using hxy)]
      · have hdd : decide ((j : Int) < (q : Int) - (f : Int)) = false := by simp; omega
        have HRR := Lib.hid hr
        clear hr
        go_wp2_with fail
        go_quiet (fail)
        go_wp2
        go_meet
        refine ⟨?_, hg.drN _⟩
        have := HQ.out
        have := HRR.out
        rw [endsB_eq (j := j) HF.out (by rw [HL1.out]; omega) (by rw [HL2.out]; omega) HI.out (fun h2 h3 => by rw [HL1.out] at h2; rw [HL2.out] at h3; omega)]
  case rest =>
  obtain ⟨rfl, hg2⟩ := hcut
  go_wp2
  go_ret2
  exact ⟨by rw [HF.out]; rfl, hg2⟩
end Go.Proofs.Ytbkcpgaicoagfaa
/- Delta: the walk of the answer's Ends. -/
set_option linter.unusedVariables false
set_option linter.unusedSimpArgs false
namespace Go.Proofs.Ytbkcpgaicoagfaa
open Go.RowKit

set_option maxRecDepth 100000 in
set_option maxHeartbeats 1600000 in
theorem rends_any (A : Option Addr) (n c : Nat) (was : List Hdr) (B : Option Addr) (m d : Nat) (list : List Hdr) (w : World) (hr : RdH w A n was) (hs : RdH w B m list) (hn : n ≤ 9223372036854775807) (hm : m ≤ 9223372036854775807) :
    Calls Try.prog 62 #[.slice A n c, .slice B m d] w fun e w' => e = .returned (.tuple #[.int .i64 (endsA was list : Int), .int .i64 (endsB was list : Int)]) ∧ Grew w w' := by
  have hl1 := hr.lenH
  have hl2 := hs.lenH
  have HR := Lib.hid hr
  have HS := Lib.hid hs
  have HL1 := Lib.hid hl1
  have HL2 := Lib.hid hl2
  clear hr hs hl1 hl2
  go_enter Try.func62, Try.ntmps62
  go_upto_block 0 with fail
  go_cut [6] (fun f wx => f = .int .i64 (endsA was list : Int) ∧ Grew w wx)
  case first =>
    go_wp2_with fail
    go_loopg [6] n (fun g s4 wx => ∃ j : Nat, j ≤ n ∧ j ≤ m ∧ g = n - j ∧ s4 = .int .i64 (j : Int) ∧ Grew w wx ∧ ∀ k, k < j → was[k]? = list[k]?)
    case atStart => exact ⟨0, Nat.zero_le _, Nat.zero_le _, rfl, rfl, Grew.rf _, fun k hk => by omega⟩
    case round =>
      obtain ⟨j, h1, h2, rfl, rfl, hg, hI⟩ := hrel
      have HI := Lib.hid hI
      clear hI
      by_cases hj1 : j < n
      · have hd1 : decide ((j : Int) < (n : Int)) = true := by simp; omega
        by_cases hj2 : j < m
        · have hd2 : decide ((j : Int) < (m : Int)) = true := by simp; omega
          obtain ⟨b1, o1, x, hA, hx, ha1, ha2⟩ := HR.out.atH hj1
          obtain ⟨b2, o2, y, hB, hy, hb1, hb2⟩ := HS.out.atH hj2
          subst hA; subst hB
          have ca1 := hg.ce ha1
          have ca2 := hg.ce ha2
          have cb1 := hg.ce hb1
          have cb2 := hg.ce hb2
          have HX := Lib.hid hx
          have HY := Lib.hid hy
          clear hx hy ha1 ha2 hb1 hb2
          have hgd := hdr_guard
          have hbe := fun w => hdr_eql x y w
          have hbi := fun w => hdr_eqIn x y w
          go_wp2_with fail
          go_quiet (fail)
          clear hbe hbi hgd
          by_cases hxy : x = y
          · have hdx : decide (x = y) = true := decide_eq_true hxy
            rw [hdx]
            go_wp2
            go_roundg (n - (j + 1))
            case measure => omega
            case rel =>
              refine ⟨j + 1, by omega, by omega, rfl, by go_num, hg.drN _, fun k hk => ?_⟩
              by_cases hkj : k = j
              · subst hkj; rw [HX.out, HY.out, hxy]
              · exact HI.out k (by omega)
          · have hdx : decide (x = y) = false := decide_eq_false hxy
            rw [hdx]
            go_wp2
            go_meet
            refine ⟨?_, hg.drN _⟩
            rw [endsA_eq (j := j) (by rw [HL1.out]; omega) (by rw [HL2.out]; omega) HI.out (fun _ _ => by rw [HX.out, HY.out]; simpa using hxy)]
        · have hd2 : decide ((j : Int) < (m : Int)) = false := by simp; omega
          go_wp2_with fail
          go_quiet (fail)
          go_wp2
          go_meet
          refine ⟨?_, hg.drN _⟩
          rw [endsA_eq (j := j) (by rw [HL1.out]; omega) (by rw [HL2.out]; omega) HI.out (fun h2 h3 => by rw [HL2.out] at h3; omega)]
      · have hd1 : decide ((j : Int) < (n : Int)) = false := by simp; omega
        go_wp2_with fail
        go_quiet (fail)
        go_wp2
        go_meet
        refine ⟨?_, hg.drN _⟩
        rw [endsA_eq (j := j) (by rw [HL1.out]; omega) (by rw [HL2.out]; omega) HI.out (fun h2 h3 => by rw [HL1.out] at h2; omega)]
  case rest =>
  obtain ⟨rfl, hg1⟩ := hcut
  obtain ⟨f, hf⟩ : ∃ f, endsA was list = f := ⟨_, rfl⟩
  have hfl := endsA_le was list
  rw [HL1.out, HL2.out] at hfl
  rw [hf] at hfl ⊢
  have HF := Lib.hid hf
  obtain ⟨hfn, hfm⟩ := hfl
  clear hf
  go_upto_block 2 with fail
  go_cut [7] (fun f wx => f = .int .i64 (endsB was list : Int) ∧ Grew w wx)
  case first =>
    go_wp2_with fail
    go_loopg [7] n (fun g s4 wx => ∃ j : Nat, j + f ≤ n ∧ j + f ≤ m ∧ g = n - j ∧ s4 = .int .i64 (j : Int) ∧ Grew w wx ∧ ∀ k, k < j → was[was.length - 1 - k]? = list[list.length - 1 - k]?)
    case atStart => exact ⟨0, by omega, by omega, rfl, rfl, hg1, fun k hk => by omega⟩
    case round =>
      obtain ⟨j, h1, h2, rfl, rfl, hg, hI⟩ := hrel
      have HI := Lib.hid hI
      clear hI
      obtain ⟨r, hr⟩ : ∃ r, f + j = r := ⟨_, rfl⟩
      have hw0 : IntKind.i64.wrap ((f : Int) + (j : Int)) = (r : Int) := by
        rw [IntWalk.i64_in _ ⟨by omega, by omega⟩]; omega
      have HRR := Lib.hid hr
      by_cases hr1 : r < n
      · have hd1 : decide ((r : Int) < (n : Int)) = true := by simp; omega
        by_cases hr2 : r < m
        · have hd2 : decide ((r : Int) < (m : Int)) = true := by simp; omega
          obtain ⟨n', hn'⟩ : ∃ n', n - 1 = n' := ⟨_, rfl⟩
          obtain ⟨m', hm'⟩ : ∃ m', m - 1 = m' := ⟨_, rfl⟩
          obtain ⟨i1, hi1⟩ : ∃ i1, n' - j = i1 := ⟨_, rfl⟩
          obtain ⟨i2, hi2⟩ : ∃ i2, m' - j = i2 := ⟨_, rfl⟩
          have hw1 : IntKind.i64.wrap ((n : Int) - 1) = (n' : Int) := by
            rw [IntWalk.i64_in _ ⟨by omega, by omega⟩]; omega
          have hw2 : IntKind.i64.wrap ((n' : Int) - (j : Int)) = (i1 : Int) := by
            rw [IntWalk.i64_in _ ⟨by omega, by omega⟩]; omega
          have hw3 : IntKind.i64.wrap ((m : Int) - 1) = (m' : Int) := by
            rw [IntWalk.i64_in _ ⟨by omega, by omega⟩]; omega
          have hw4 : IntKind.i64.wrap ((m' : Int) - (j : Int)) = (i2 : Int) := by
            rw [IntWalk.i64_in _ ⟨by omega, by omega⟩]; omega
          have hjb : j + 1 ≤ 9223372036854775807 := by omega
          have hj1 : i1 < n := by omega
          have hj2 : i2 < m := by omega
          have hk1 : n - 1 - j = i1 := by omega
          have hk2 : m - 1 - j = i2 := by omega
          have HK1 := Lib.hid hk1
          have HK2 := Lib.hid hk2
          have HJ : RowKit.Hid (j + 1 + f ≤ n ∧ j + 1 + f ≤ m) := ⟨by omega, by omega⟩
          obtain ⟨b1, o1, x, hA, hx, ha1, ha2⟩ := HR.out.atH hj1
          obtain ⟨b2, o2, y, hB, hy, hb1, hb2⟩ := HS.out.atH hj2
          subst hA; subst hB
          have ca1 := hg.ce ha1
          have ca2 := hg.ce ha2
          have cb1 := hg.ce hb1
          have cb2 := hg.ce hb2
          have HX := Lib.hid hx
          have HY := Lib.hid hy
          clear hx hy ha1 ha2 hb1 hb2 hk1 hk2 hn' hm' hi1 hi2 hr
          have hgd := hdr_guard
          have hbe := fun w => hdr_eql x y w
          have hbi := fun w => hdr_eqIn x y w
          go_wp2_with fail
          go_quiet (fail)
          clear hbe hbi hgd hw0 hw1 hw2 hw3 hw4
          by_cases hxy : x = y
          · have hdx : decide (x = y) = true := decide_eq_true hxy
            rw [hdx]
            go_wp2
            go_roundg (n - (j + 1))
            case measure => have := HJ.out; omega
            case rel =>
              refine ⟨j + 1, by have := HJ.out; omega, by have := HJ.out; omega, rfl, by go_num, hg.drN _, fun k hk => ?_⟩
              by_cases hkj : k = j
              · subst hkj; rw [HL1.out, HL2.out, HK1.out, HK2.out, HX.out, HY.out, hxy]
              · exact HI.out k (by omega)
          · have hdx : decide (x = y) = false := decide_eq_false hxy
            rw [hdx]
            go_wp2
            go_meet
            refine ⟨?_, hg.drN _⟩
            have := HJ.out
            rw [endsB_eq (j := j) HF.out (by rw [HL1.out]; omega) (by rw [HL2.out]; omega) HI.out (fun _ _ => by rw [HL1.out, HL2.out, HK1.out, HK2.out, HX.out, HY.out]; simpa using hxy)]
        · have hd2 : decide ((r : Int) < (m : Int)) = false := by simp; omega
          clear hr
          go_wp2_with fail
          go_quiet (fail)
          clear hw0
          go_wp2
          go_meet
          refine ⟨?_, hg.drN _⟩
          have := HRR.out
          rw [endsB_eq (j := j) HF.out (by rw [HL1.out]; omega) (by rw [HL2.out]; omega) HI.out (fun h2 h3 => by rw [HL2.out] at h3; omega)]
      · have hd1 : decide ((r : Int) < (n : Int)) = false := by simp; omega
        clear hr
        go_wp2_with fail
        go_quiet (fail)
        clear hw0
        go_wp2
        go_meet
        refine ⟨?_, hg.drN _⟩
        have := HRR.out
        rw [endsB_eq (j := j) HF.out (by rw [HL1.out]; omega) (by rw [HL2.out]; omega) HI.out (fun h2 h3 => by rw [HL1.out] at h2; omega)]
  case rest =>
  obtain ⟨rfl, hg2⟩ := hcut
  go_wp2
  go_ret2
  exact ⟨by rw [HF.out]; rfl, hg2⟩
end Go.Proofs.Ytbkcpgaicoagfaa
/- Intern's laws: the walk of few. -/
set_option linter.unusedVariables false
set_option linter.unusedSimpArgs false
namespace Go.Proofs.Ytbkcpgaicoagfaa
open Go.RowKit

/-- Texts, not too many, nor too long. -/
def cutT (s : ByteArray) : ByteArray := if 300 < s.size then s.extract 0 300 else s
def fewT (ts : List ByteArray) : List ByteArray := (ts.take 40).map cutT
theorem cutT_size (s : ByteArray) : (cutT s).size ≤ 300 := by
  unfold cutT
  split
  · rw [ByteArray.size_extract]; omega
  · omega
theorem fewT_len (ts : List ByteArray) : (fewT ts).length = min 40 ts.length := by simp [fewT]
theorem fewT_snoc {ts : List ByteArray} {j : Nat} {t : ByteArray} (h : ts[j]? = some t) : ((ts.take (j + 1)).map cutT) = ((ts.take j).map cutT) ++ [cutT t] := by
  have hj := (List.getElem?_eq_some_iff.1 h).1
  have h2 := (List.getElem?_eq_some_iff.1 h).2
  rw [← List.take_append_getElem hj, List.map_append, h2]
  rfl

set_option maxRecDepth 100000 in
set_option maxHeartbeats 1600000 in
theorem few_any (A : Option Addr) (n c : Nat) (ts : List ByteArray) (w : World) (hr : RdV 1 w A n (ts.map Value.string)) (hs : ∀ t ∈ ts, t.size ≤ 9223372036854775807) (hn : n ≤ 9223372036854775807) :
    Calls Try.prog 22 #[.slice A n c] w fun e w' => ∃ v, e = .returned v ∧ OwnT w' w.heap.size v (fewT ts) ∧ Grew w w' := by
  have hlen : ts.length = n := by have := hr.len; simpa using this
  have HR := Lib.hid hr
  have HS := Lib.hid hs
  have HL := Lib.hid hlen
  clear hr hs hlen
  go_enter Try.func22, Try.ntmps22
  go_wp2
  go_loopw [3, 4] (fun v i wr => ∃ j : Nat, i = .int .i64 (j : Int) ∧ j ≤ 40 ∧ j ≤ n ∧ OwnV 9 1 wr w.heap.size v j (((ts.take j).map cutT).map Value.string) ∧ Grew w wr) (fun _ i _ => 40 - (intOf i).toNat)
  case atStart => exact ⟨0, rfl, by omega, by omega, ownV_lit0 _ 1 w, (Grew.rf w).al _⟩
  case round =>
    obtain ⟨j, rfl, hj, hjn, hO, hB⟩ := hrel
    by_cases hc : j < n ∧ j < 40
    · obtain ⟨hc1, hc2⟩ := hc
      obtain ⟨g, o, hA, hcl⟩ := HR.out.cells (by omega)
      obtain ⟨t, ht⟩ : ∃ t, ts[j]? = some t := ⟨_, List.getElem?_eq_getElem (by rw [HL.out]; exact hc1)⟩
      have hce := hB.ce (hcl j (.string t) (by rw [List.getElem?_map, ht]; rfl))
      have hts := HS.out t (List.mem_of_getElem? ht)
      have hsn := fewT_snoc ht
      subst hA
      have HSN := Lib.hid hsn
      have hsz := hB.size
      clear hcl ht hsn
      by_cases hb : 300 < t.size
      · have hcu : cutT t = t.extract 0 300 := by unfold cutT; rw [if_pos hb]
        have HCU := Lib.hid hcu
        clear hcu
        go_wp2_with ((with_reducible refine gate_b .append #[.tmp 26, .tmp 28] _ rfl ?_); refine appV Try.underlying45 infostr rfl (by decide) (by decide) (.inl rfl) rfl rfl rfl (hO.keep ((Grew.rf _).al (.cells #[.string (t.extract 0 300)] 9))) (rdV_lit1 _ (.string (t.extract 0 300)) 9) (by simp [Value.oneCell']) (by simp; omega) (by omega) ?_; intro v1 w1 ho1 hg1 hat1)
        go_roundw
        case rel =>
          refine ⟨j + 1, by go_num, by omega, by omega, ?_, (hB.al _).grown hg1 (by simp; omega) (fun k e => hO.base_le k e)⟩
          rw [HSN.out, List.map_append, HCU.out]
          exact ho1
        case measure => simp [intOf]; omega
      · have hcu : cutT t = t := by unfold cutT; rw [if_neg hb]
        have HCU := Lib.hid hcu
        clear hcu
        go_wp2_with ((with_reducible refine gate_b .append #[.tmp 26, .tmp 28] _ rfl ?_); refine appV Try.underlying45 infostr rfl (by decide) (by decide) (.inl rfl) rfl rfl rfl (hO.keep ((Grew.rf _).al (.cells #[.string t] 9))) (rdV_lit1 _ (.string t) 9) (by simp [Value.oneCell']) (by simp; omega) (by omega) ?_; intro v1 w1 ho1 hg1 hat1)
        go_roundw
        case rel =>
          refine ⟨j + 1, by go_num, by omega, by omega, ?_, (hB.al _).grown hg1 (by simp; omega) (fun k e => hO.base_le k e)⟩
          rw [HSN.out, List.map_append, HCU.out]
          exact ho1
        case measure => simp [intOf]; omega
    · have hfin : (ts.take j).map cutT = fewT ts := by
        unfold fewT
        by_cases h40 : j = 40
        · rw [h40]
        · have : j = n := by omega
          rw [List.take_of_length_le (by rw [HL.out]; omega), List.take_of_length_le (by rw [HL.out]; omega)]
      have hfl : j = (fewT ts).length := by rw [fewT_len, HL.out]; omega
      rw [hfin] at hO
      have HFL := Lib.hid hfl
      clear hfin hfl
      by_cases hc1 : j < n
      · have hc2 : ¬ j < 40 := fun h => hc ⟨hc1, h⟩
        clear hc
        go_wp2
        go_ret
        exact ⟨_, rfl, HFL.out ▸ hO, hB⟩
      · clear hc
        go_wp2
        go_ret
        exact ⟨_, rfl, HFL.out ▸ hO, hB⟩
end Go.Proofs.Ytbkcpgaicoagfaa
/- Intern's laws: the walk of awake. -/
set_option linter.unusedVariables false
set_option linter.unusedSimpArgs false
namespace Go.Proofs.Ytbkcpgaicoagfaa
open Go.RowKit

theorem U8.chg {F : Nat → Prop} {w w' : World} {A : Option Addr} (h : U8 w A) (hg : Chg F w w') (hF : ∀ ad, A = some ad → ¬ F ad.block) : U8 w' A := fun ad e => by
  obtain ⟨cs, fr, hc⟩ := h ad e
  exact ⟨cs, fr, hg.by_ hc (hF ad e)⟩
theorem U8.tab {w : World} {A : Option Addr} (h : U8 w A) {p : Nat} {lv : Value} {mb : Nat} {ts : List ByteArray} (hT : TabI w p lv mb ts) : ∀ ad, A = some ad → ¬ ftp p lv mb ad.block := by
  intro ad e hk
  obtain ⟨cs, fr, hc⟩ := h ad e
  rcases hk with hk | hk | hk
  · rw [hk, hT.cells] at hc
    simp only [Option.some.injEq, Obj.cells.injEq] at hc
    exact absurd hc.2.1 (by decide)
  · obtain ⟨es, c, hm⟩ := hT.map.isMap
    rw [hk, hm] at hc; cases hc
  · obtain ⟨cur, hl⟩ := hT.list.block hk
    rw [hl] at hc
    simp only [Option.some.injEq, Obj.cells.injEq] at hc
    exact absurd hc.2.1 (by decide)
theorem U8.ref {w : World} {A : Option Addr} (h : U8 w A) {q : Nat} {lv : Value} {ts : List ByteArray} (hR : RefI w q lv ts) : ∀ ad, A = some ad → ¬ ftr q lv ad.block := by
  intro ad e hk
  obtain ⟨cs, fr, hc⟩ := h ad e
  rcases hk with hk | hk
  · rw [hk, hR.cells] at hc
    simp only [Option.some.injEq, Obj.cells.injEq] at hc
    exact absurd hc.2.1 (by decide)
  · obtain ⟨cur, hl⟩ := hR.list.block hk
    rw [hl] at hc
    simp only [Option.some.injEq, Obj.cells.injEq] at hc
    exact absurd hc.2.1 (by decide)
/-- Two parts of memory stay apart while one of them grows by new blocks. -/
theorem apart_step {F G G' : Nat → Prop} {n : Nat} (h : ∀ k, F k → ¬ G k) (hF : ∀ k, F k → k < n) (hG : ∀ k, G' k → G k ∨ n ≤ k) : ∀ k, F k → ¬ G' k := fun k hk hg => by
  rcases hG k hg with h2 | h2
  · exact h k hk h2
  · have := hF k hk; omega

theorem low_step {G G' : Nat → Prop} {n m : Nat} (h : ∀ k, G k → n ≤ k) (hG : ∀ k, G' k → G k ∨ m ≤ k) (hn : n ≤ m) : ∀ k, G' k → n ≤ k := fun k hk => (hG k hk).elim (h k) (fun h2 => by omega)
theorem grew_chg {F : Nat → Prop} {w a b : World} (h : Grew w a) (hc : Chg F a b) (hF : ∀ k, F k → w.heap.size ≤ k) : Grew w b := h.trans (hc.low hF h.size)
theorem RdK.chgT {F : Nat → Prop} {w w' : World} {A : Option Addr} {n : Nat} {xs : List Int} (h : Rd w A n xs) (hg : Chg F w w') (hA : ∀ ad, A = some ad → ¬ F ad.block) : Rd w' A n xs := h.chg hg (fun _ => hA)
def sA : ByteArray := ⟨#[97]⟩
def sB : ByteArray := ⟨#[98]⟩
theorem put_1 : putT [] sA = ([0, 1, 97], [sA]) := by decide +kernel
theorem put_2 : putT [sA] sB = ([0, 1, 98], [sA, sB]) := by decide +kernel
theorem put_3 : putT [sA, sB] sA = ([1], [sA, sB]) := by decide +kernel
def bAb : List Int := [0, 1, 97, 0, 1, 98, 1]
theorem take_1 : takeT [] bAb 0 = (sA, 3, 0, [sA]) := by decide +kernel
theorem take_2 : takeT [sA] bAb 3 = (sB, 6, 0, [sA, sB]) := by decide +kernel
theorem take_3 : takeT [sA, sB] bAb 6 = (sA, 7, 0, [sA, sB]) := by decide +kernel
theorem take_4 : takeT [sA, sB] [3] 0 = (ByteArray.empty, 0, 5, [sA, sB]) := by decide +kernel
theorem ttake_to (p : Nat) (lv : Value) (mb : Nat) (ts : List ByteArray) (A : Option Addr) (n c : Nat) (b : List Int) (at_ : Int) (s : ByteArray) (nx er : Int) (ts' : List ByteArray) (he : takeT ts b at_ = (s, nx, er, ts')) (w : World) (hT : TabI w p lv mb ts) (hr : Rd w A n b) (hb : Byt b) (hnc : n ≤ c) (hc : c ≤ 9223372036854775807) (hn : n ≤ 100000000) (hf : ts.length < 1000000) (h0 : -9223372036854775808 ≤ at_) (h1 : at_ ≤ 9223372036854775807) :
    Calls Try.prog 27 #[.pointer (some ⟨p, 0, none⟩), .slice A n c, .int .i64 at_] w fun e w' => e = .returned (.tuple #[.string s, .int .i64 nx, .int .i64 er]) ∧ TakeQ w w' p lv mb ts' := by
  have := ttake_any p lv mb ts A n c b at_ w hT hr hb hnc hc hn hf h0 h1
  rw [he] at this
  exact this

set_option maxRecDepth 100000 in
set_option maxHeartbeats 3200000 in
theorem awake19_any (w : World) : Calls Try.prog 26 #[] w fun e w' => e = .returned (.bool true) ∧ Grew w w' := by
  go_enter Try.func26, Try.ntmps26
  go_wp2_with fail
  refine Calls.mono (tnew_any _) ?_
  rintro e w1 ⟨p1, mb1, rfl, hT1, hg1, hp1, hm1⟩
  go_wp2_with fail
  refine Calls.mono (tnew_any _) ?_
  rintro e w2 ⟨p2, mb2, rfl, hU2, hg2, hp2, hm2⟩
  have hT2 := hT1.keep hg2
  have hap2 : ∀ k, ftp p2 (.slice none 0 0) mb2 k → ¬ ftp p1 (.slice none 0 0) mb1 k := fun k hk h => by
    have := hT1.lt h
    rcases hk with rfl | rfl | hk
    · omega
    · omega
    · cases hk
  go_wp2_with fail
  refine Calls.mono (tput_any p1 _ mb1 [] sA none 0 0 [] w2 hT2 (RdK.nil _ _ _) (fun _ _ h => by cases h) (by decide) (by decide) (by decide)) ?_
  rintro e w3 ⟨B3, m3, d3, rfl, Q3⟩
  rw [put_1] at Q3
  obtain ⟨lt3, hT3, hf3, hd3⟩ := Q3.tab
  have hU3 := hU2.chg Q3.chg hap2
  have hap3 := apart_step hap2 (fun k hk => hU2.lt hk) hf3
  have hr3 := Q3.rd
  go_wp2_with fail
  refine Calls.mono (tput_any p1 lt3 mb1 [sA] sB B3 m3 d3 _ w3 hT3 hr3 (fun _ => hd3) (by decide) (by rw [← hr3.len]; decide) (by decide)) ?_
  rintro e w4 ⟨B4, m4, d4, rfl, Q4⟩
  rw [put_2] at Q4
  obtain ⟨lt4, hT4, hf4, hd4⟩ := Q4.tab
  have hU4 := hU3.chg Q4.chg hap3
  have hap4 := apart_step hap3 (fun k hk => hU3.lt hk) hf4
  have hr4 := Q4.rd
  go_wp2_with fail
  refine Calls.mono (tput_any p1 lt4 mb1 [sA, sB] sA B4 m4 d4 _ w4 hT4 hr4 (fun _ => hd4) (by decide) (by rw [← hr4.len]; decide) (by decide)) ?_
  rintro e w5 ⟨B5, m5, d5, rfl, Q5⟩
  rw [put_3] at Q5
  obtain ⟨lt5, hT5, hf5, hd5⟩ := Q5.tab
  have hU5 := hU4.chg Q5.chg hap4
  have hap5 := apart_step hap4 (fun k hk => hU4.lt hk) hf5
  have hr5 : Rd w5 B5 m5 bAb := Q5.rd
  have hu5 := Q5.u8
  have hle5 := Q5.le
  have hcap5 := Q5.cap
  obtain rfl : m5 = 7 := hr5.len.symm
  have hl2 : ∀ k, ftp p1 (.slice none 0 0) mb1 k → w.heap.size ≤ k := by
    rintro k (rfl | rfl | hk)
    · exact hp1
    · exact hm1
    · cases hk
  have hG2 : Grew w w2 := hg1.tr hg2
  have hG3 := grew_chg hG2 Q3.chg hl2
  have hl3 := low_step hl2 hf3 hG2.size
  have hG4 := grew_chg hG3 Q4.chg hl3
  have hl4 := low_step hl3 hf4 hG3.size
  have hG5 := grew_chg hG4 Q5.chg hl4
  have hl5 := low_step hl4 hf5 hG4.size
  have hk2 : ∀ k, ftp p2 (.slice none 0 0) mb2 k → w.heap.size ≤ k := by
    have := hg1.size
    rintro k (rfl | rfl | hk)
    · omega
    · omega
    · cases hk
  have hT5 : TabI w5 p1 lt5 mb1 [sA, sB] := hT5
  clear Q3 Q4 Q5 hT3 hT4 hU3 hU4 hap2 hap3 hap4 hr3 hr4 hd3 hd4 hd5
  go_wp2_with fail
  refine Calls.mono (ttake_to p2 _ mb2 [] B5 7 d5 bAb 0 _ _ _ _ take_1 w5 hU5 hr5 (byt_of (by decide)) hle5 hcap5 (by decide) (by decide) (by decide) (by decide)) ?_
  rintro e w6 ⟨rfl, ⟨lu6, hU6, hf6⟩, hC6⟩
  have hr6 := hr5.chgT hC6 (hu5.tab hU5)
  have hu6 := hu5.chg hC6 (hu5.tab hU5)
  have hT6 := hT5.chg hC6 (fun k hk h => hap5 k h hk)
  have hap6 : ∀ k, ftp p1 lt5 mb1 k → ¬ ftp p2 lu6 mb2 k := apart_step (fun k hk h => hap5 k h hk) (fun k hk => hT5.lt hk) hf6
  have hG6 := grew_chg hG5 hC6 hk2
  have hk6 := low_step hk2 hf6 hG5.size
  clear hU5 hr5 hu5 hT5 hap5 hC6 hf6
  go_wp2_with fail
  refine Calls.mono (ttake_to p2 _ mb2 [sA] B5 7 d5 bAb 3 _ _ _ _ take_2 w6 hU6 hr6 (byt_of (by decide)) hle5 hcap5 (by decide) (by decide) (by decide) (by decide)) ?_
  rintro e w7 ⟨rfl, ⟨lu7, hU7, hf7⟩, hC7⟩
  have hr7 := hr6.chgT hC7 (hu6.tab hU6)
  have hu7 := hu6.chg hC7 (hu6.tab hU6)
  have hT7 := hT6.chg hC7 hap6
  have hap7 := apart_step hap6 (fun k hk => hT6.lt hk) hf7
  have hG7 := grew_chg hG6 hC7 hk6
  have hk7 := low_step hk6 hf7 hG6.size
  clear hU6 hr6 hu6 hT6 hap6 hC7 hf7
  go_wp2_with fail
  refine Calls.mono (ttake_to p2 _ mb2 [sA, sB] B5 7 d5 bAb 6 _ _ _ _ take_3 w7 hU7 hr7 (byt_of (by decide)) hle5 hcap5 (by decide) (by decide) (by decide) (by decide)) ?_
  rintro e w8 ⟨rfl, ⟨lu8, hU8, hf8⟩, hC8⟩
  have hr8 := hr7.chgT hC8 (hu7.tab hU7)
  have hu8 := hu7.chg hC8 (hu7.tab hU7)
  have hT8 := hT7.chg hC8 hap7
  have hap8 := apart_step hap7 (fun k hk => hT7.lt hk) hf8
  have hG8 := grew_chg hG7 hC8 hk7
  have hk8 := low_step hk7 hf8 hG7.size
  clear hU7 hr7 hu7 hT7 hap7 hC8 hf8
  go_wp2_with fail
  refine Calls.mono (ttake_to p2 _ mb2 [sA, sB] (some ⟨w8.heap.size, 0, none⟩) 1 1 [3] 0 _ _ _ _ take_4 _ (hU8.keep ((Grew.rf w8).al _)) (rd_lit' [3] rfl rfl rfl (by decide)) (byt_of (by decide)) (by decide) (by decide) (by decide) (by decide) (by decide) (by decide)) ?_
  rintro e w9 ⟨rfl, ⟨lu9, hU9, hf9⟩, hC9⟩
  have hr9 := (hr8.al (.cells #[.int .u8 3] 5)).chgT hC9 (hu8.tab hU8)
  have hT9 := (hT8.keep ((Grew.rf w8).al (.cells #[.int .u8 3] 5))).chg hC9 hap8
  have hG9 := grew_chg (hG8.al (.cells #[.int .u8 3] 5)) hC9 hk8
  clear hU8 hr8 hu8 hT8 hap8 hC9 hf9
  have hs1 := RdK.str (c := d5) hr9
  have hs2 : (convert 23 9 (.slice (some ⟨w9.heap.size, 0, none⟩) 7 7)).run Try.prog (w9.alloc (.cells #[.int .u8 0, .int .u8 1, .int .u8 97, .int .u8 0, .int .u8 1, .int .u8 98, .int .u8 1] 5)) = .ok (.string (strOfNums bAb)) (w9.alloc (.cells #[.int .u8 0, .int .u8 1, .int .u8 97, .int .u8 0, .int .u8 1, .int .u8 98, .int .u8 1] 5)) := RdK.str (rd_lit' bAb rfl rfl rfl (by decide))
  have hT10 := hT9.keep ((Grew.rf w9).al (.cells #[.int .u8 0, .int .u8 1, .int .u8 97, .int .u8 0, .int .u8 1, .int .u8 98, .int .u8 1] 5))
  have hU10 := hU9.keep ((Grew.rf w9).al (.cells #[.int .u8 0, .int .u8 1, .int .u8 97, .int .u8 0, .int .u8 1, .int .u8 98, .int .u8 1] 5))
  rw [show sA = ⟨#[97]⟩ from rfl, show sB = ⟨#[98]⟩ from rfl]
  clear hT9 hU9 hr9
  go_wp2_with fail
  refine Calls.mono (tlen_any p2 _ mb2 _ _ hU10) ?_
  rintro e w11 ⟨rfl, rfl⟩
  go_wp2_with fail
  refine Calls.mono (tlen_any p1 _ mb1 _ _ hT10) ?_
  rintro e w11 ⟨rfl, rfl⟩
  go_wp2_with fail
  go_ret
  exact ⟨rfl, hG9.al _⟩
end Go.Proofs.Ytbkcpgaicoagfaa
