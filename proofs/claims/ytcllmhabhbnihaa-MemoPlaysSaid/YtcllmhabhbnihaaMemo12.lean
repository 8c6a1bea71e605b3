/- Memo: plain laws of what Put leaves; deeds in memory. -/
import Derived.Test.YtcllmhabhbnihaaMemo11
set_option linter.unusedVariables false
set_option linter.unusedSimpArgs false
namespace Go.Proofs.Ytcllmhabhbnihaa
open Go.RowKit

/-- Of one thing there is one entry. -/
def Once (l : List Ask) : Prop := (l.map thA).Nodup
theorem once_nil : Once [] := by simp [Once]
theorem once_sub {l m : List Ask} (h : Once m) (hs : l.Sublist m) : Once l := (hs.map thA).nodup h
theorem room_sub (m : Nat) (l : List Ask) (now : Int) : (room2 m (room1 m l now)).Sublist l := by
  have h1 : (room1 m l now).Sublist l := by
    unfold room1
    split
    · exact List.filter_sublist
    · exact List.Sublist.refl _
  refine List.Sublist.trans ?_ h1
  unfold room2
  split
  · exact List.drop_sublist _ _
  · exact List.Sublist.refl _
theorem once_put (m : Nat) (l : List Ask) (x : Ask) (now : Int) (h : Once l) : Once (putM m l x now) ∧ x ∈ putM m l x now := by
  unfold putM
  split
  · rename_i hf
    have ht : sameA x (l[l.findIdx (sameA x)]'hf) = true := List.findIdx_getElem
    refine ⟨?_, List.mem_iff_getElem.2 ⟨l.findIdx (sameA x), by simpa using hf, by simp⟩⟩
    have e : (l.set (l.findIdx (sameA x)) x).map thA = l.map thA := by
      rw [List.map_set]
      have : thA x = (l.map thA)[l.findIdx (sameA x)]'(by simpa using hf) := by rw [List.getElem_map]; exact of_decide_eq_true ht
      rw [this, List.set_getElem_self]
    show ((l.set (l.findIdx (sameA x)) x).map thA).Nodup
    rw [e]; exact h
  · rename_i hf
    refine ⟨?_, by simp⟩
    have hn : ∀ y ∈ l, thA y ≠ thA x := fun y hy e => hf (List.findIdx_lt_length_of_exists ⟨y, hy, decide_eq_true e.symm⟩)
    have hs := room_sub m l now
    show ((room2 m (room1 m l now) ++ [x]).map thA).Nodup
    rw [List.map_append, List.nodup_append]
    refine ⟨once_sub h hs, by simp, ?_⟩
    intro a ha b hb
    obtain ⟨y, hy, rfl⟩ := List.mem_map.1 ha
    simp at hb
    subst hb
    exact hn y (hs.subset hy)
def cntA (x : Ask) (l : List Ask) : Nat := l.countP (fun y => decide (thA y = thA x))
theorem cnt_zero (x : Ask) (l : List Ask) (h : thA x ∉ l.map thA) : cntA x l = 0 := by
  unfold cntA
  rw [List.countP_eq_zero]
  intro y hy
  simp only [decide_eq_true_eq]
  exact fun e => h (List.mem_map.2 ⟨y, hy, e⟩)
theorem cnt_one (x : Ask) : ∀ l : List Ask, Once l → x ∈ l → cntA x l = 1
  | [], _, h => by cases h
  | y :: l, ho, h => by
    have ho2 : thA y ∉ l.map thA ∧ (l.map thA).Nodup := by simpa [Once] using ho
    by_cases e : thA y = thA x
    · have := cnt_zero x l (by rw [← e]; exact ho2.1)
      unfold cntA at this ⊢
      rw [List.countP_cons, this]
      simp [e]
    · have hx : x ∈ l := by
        rcases List.mem_cons.1 h with h | h
        · subst h; exact absurd rfl e
        · exact h
      have := cnt_one x l ho2.2 hx
      unfold cntA at this ⊢
      rw [List.countP_cons, this]
      simp [e]
theorem oneA_self (a : ByteArray) (b : Bool) : oneA a a b = true := by simp [oneA]
theorem hasP_self (x : Ask) (now : Int) (h : now < x.2.2.2.2.2) : hasP x now x = true := by
  have : ∀ b : Bool, (b || !b) = true := by decide
  simp only [hasP, methA, h, oneA_self, this, decide_true, Bool.true_and, Bool.true_or]
theorem has_in (x : Ask) (now : Int) (l : List Ask) (hx : x ∈ l) (h : now < x.2.2.2.2.2) : l.any (hasP x now) = true := List.any_eq_true.2 ⟨x, hx, hasP_self x now h⟩
theorem has_out (x : Ask) (now : Int) (l : List Ask) : (l.filter fun y => !decide (y.1 = x.1 ∧ y.2.1 = x.2.1)).any (hasP x now) = false := by
  rw [List.any_eq_false]
  intro y hy
  have := (List.mem_filter.1 hy).2
  simp only [Bool.not_eq_true', decide_eq_false_iff_not] at this
  simp only [hasP, Bool.and_eq_true, decide_eq_true_eq]
  exact fun h => this ⟨h.2.1, h.2.2.1⟩
theorem until_eq (x y : Ask) : decide ((y.1, y.2.1, y.2.2.1, y.2.2.2.1, y.2.2.2.2.1, x.2.2.2.2.2) = x) = decide (thA y = thA x) := by
  obtain ⟨x1, x2, x3, x4, x5, x6⟩ := x
  obtain ⟨y1, y2, y3, y4, y5, y6⟩ := y
  simp [thA]

/-! ### Deeds in memory -/
abbrev Dee := Int × Ask × Int
def dv (d : Dee) : List Value := .int .u8 d.1 :: (av d.2.1 ++ [.int .i64 d.2.2])
def dcs (l : List Dee) : List Value := l.flatMap dv
theorem dcs_len (l : List Dee) : (dcs l).length = l.length * 8 := by
  induction l with
  | nil => rfl
  | cons h l ih => simp only [dcs, List.flatMap_cons, List.length_append, List.length_cons] at ih ⊢; simp [dv, av] at ih ⊢; omega
theorem dcs_append (l m : List Dee) : dcs (l ++ m) = dcs l ++ dcs m := by simp [dcs]
theorem dcs_get : ∀ {l : List Dee} {j k : Nat} {h : Dee} {v : Value}, l[j]? = some h → (dv h)[k]? = some v → (dcs l)[j * 8 + k]? = some v
  | [], j, k, h, v, e, _ => by simp at e
  | x :: l, 0, k, h, v, e, hv => by
    simp at e
    subst e
    have : dcs (x :: l) = dv x ++ dcs l := by simp [dcs]
    rw [this, Nat.zero_mul, Nat.zero_add, List.getElem?_append_left (List.getElem?_eq_some_iff.1 hv).1]
    exact hv
  | x :: l, j + 1, k, h, v, e, hv => by
    have := dcs_get (l := l) (j := j) (k := k) (h := h) (v := v) (by simpa using e) hv
    have e1 : dcs (x :: l) = dv x ++ dcs l := by simp [dcs]
    have e2 : (dv x).length = 8 := rfl
    rw [e1, List.getElem?_append_right (by omega), e2, show (j + 1) * 8 + k - 8 = j * 8 + k by omega]
    exact this
abbrev RdD (w : World) (A : Option Addr) (n : Nat) (l : List Dee) : Prop := RdV 8 w A n (dcs l)
theorem RdV.lenD {w : World} {A : Option Addr} {n : Nat} {l : List Dee} (h : RdD w A n l) : l.length = n := by
  have := h.len
  rw [dcs_len] at this
  omega
theorem RdV.atD {w : World} {A : Option Addr} {n : Nat} {l : List Dee} (h : RdD w A n l) {j : Nat} (hj : j < n) : ∃ b o d, A = some ⟨b, o, none⟩ ∧ l[j]? = some d ∧ w.cell? ⟨b, o + j * 8, none⟩ = some (.int .u8 d.1) ∧ SixC w b (o + j * 8 + 1) d.2.1 ∧ w.cell? ⟨b, o + j * 8 + 7, none⟩ = some (.int .i64 d.2.2) := by
  obtain ⟨b, o, e, hc⟩ := h.cells (by omega)
  have hx : l[j]? = some (l[j]'(by rw [h.lenD]; exact hj)) := List.getElem?_eq_getElem _
  have g := fun (k : Nat) (v : Value) (hv : (dv (l[j]'(by rw [h.lenD]; exact hj)))[k]? = some v) => hc (j * 8 + k) v (dcs_get hx hv)
  refine ⟨b, o, _, e, hx, g 0 _ rfl, ⟨?_, ?_, ?_, ?_, ?_, ?_⟩, ?_⟩
  · have := g 1 _ rfl; rw [← Nat.add_assoc] at this; exact this
  · have := g 2 _ rfl; rw [← Nat.add_assoc] at this; exact this
  · have := g 3 _ rfl; rw [← Nat.add_assoc] at this; exact this
  · have := g 4 _ rfl; rw [← Nat.add_assoc] at this; exact this
  · have := g 5 _ rfl; rw [← Nat.add_assoc] at this; exact this
  · have := g 6 _ rfl; rw [← Nat.add_assoc] at this; exact this
  · have := g 7 _ rfl; rw [← Nat.add_assoc] at this; exact this
end Go.Proofs.Ytcllmhabhbnihaa
