/- Drawn regions over a world that only grows; strings of bytes. -/
import Derived.Test.YtbkcpgaicoagfaaMem
import Derived.Test.YtbkcpgaicoagfaaRegion
set_option linter.unusedVariables false
set_option linter.unusedSimpArgs false
namespace Go.Proofs.Ytbkcpgaicoagfaa
open Go.RowKit

/-- What an operation leaves: a word on its value that stays true while the world grows. -/
structure Pd where
  p : Value → World → Prop
  mono : ∀ v u u', p v u → Grew u u' → p v u'
def Pd.any : Pd := ⟨fun _ _ => True, fun _ _ _ _ _ => trivial⟩
def Pd.eqv (v0 : Value) : Pd := ⟨fun v _ => v = v0, fun _ _ _ h _ => h⟩
def Pd.rd (xs : List Int) : Pd := ⟨fun v u => ∃ A n c, v = .slice A n c ∧ n ≤ c ∧ c ≤ 9223372036854775807 ∧ Rd u A n xs, fun _ _ _ ⟨A, n, c, h1, h2, h3, h4⟩ hg => ⟨A, n, c, h1, h2, h3, h4.keep hg⟩⟩
def Pd.own (base : Nat) (xs : List Int) : Pd := ⟨fun v u => Own u base v xs, fun _ _ _ h hg => h.keep hg⟩

theorem follows : Try.prog.follows .mixedOrders = true := by kernel_rfl

theorem region_grew {ops : List Oper} {Q : Exit → Act → World → Prop} {a0 : Act} {id : Nat} {w : World} (D : List (List (Nat × Tmp))) (E : List (Nat × Tmp)) (F : Nat → Pd)
    (hok : (regionOk ops.toArray a0.tmps.size (D.map (·.map (·.1))).toArray && pairsOk ops.toArray D && decide (pairsOf ops.toArray (List.range ops.length) = E)) = true)
    (hsteps : StepsOk (fun i => (F i).p) (Grew w) Grew Try.prog ops.toArray a0 ops D 0)
    (hend : ∀ u, Grew w u → StepGoal (fun i => (F i).p) u (fun a => Q .normal a u) E a0) :
    (Code.region id ops.toArray true).wp Try.prog Q a0 w :=
  region_mono D E (fun i => (F i).p) (Grew w) Grew follows hok (fun i v u u' h hg => (F i).mono v u u' h hg) (fun u u' h hg => h.tr hg) (Grew.rf w).dr hsteps hend

/-! ### Bytes as strings -/
theorem RdK.str {w : World} {A : Option Addr} {n c : Nat} {xs : List Int} (h : Rd w A n xs) : (convert 23 9 (.slice A n c)).run Try.prog w = .ok (.string (strOfNums xs)) w := by
  have hl := h.len
  rcases Nat.eq_zero_or_pos n with h0 | h0
  · subst h0
    have e : xs = [] := List.eq_nil_of_length_eq_zero hl
    subst e
    cases A with
    | none => exact run_convert_bytes_nil w 23 5 Try.underlying23 Try.underlying5 0 c 9 Try.underlying9
    | some ad =>
      rw [run_convert_bytes_string w 23 9 5 _ 0 c Try.underlying23 Try.underlying5 Try.underlying9]
      have hl0 : (loadCells ad 0).run Try.prog w = .ok #[] w := by simpa using run_loadCells_list (P := Try.prog) w ad [] (by simp)
      simp [Conv.bytesToString, strOfNums, hl0, Result.andThen]
      rfl
  · obtain ⟨b, o, rfl, hc⟩ := h.cells h0
    exact run_convert_bytes_arg w 23 5 Try.underlying23 Try.underlying5 b o n c xs hl hc 9 Try.underlying9
theorem OwnK.str {w : World} {base : Nat} {v : Value} {xs : List Int} (h : Own w base v xs) : (convert 23 9 v).run Try.prog w = .ok (.string (strOfNums xs)) w := by
  obtain ⟨A, c, rfl, _, _, hr⟩ := h.rd
  exact hr.str

/-- Bytes, each of them one. -/
def Byt (xs : List Int) : Prop := ∀ x ∈ xs, 0 ≤ x ∧ x ≤ 255
theorem byt_of {xs : List Int} (h : xs.all (fun x => decide (0 ≤ x) && decide (x ≤ 255)) = true) : Byt xs := fun x hx => by
  have := List.all_eq_true.1 h x hx
  simpa using this
theorem strOfNums_inj {a b : List Int} (ha : Byt a) (hb : Byt b) (h : strOfNums a = strOfNums b) : a = b := by
  have h2 : a.map (fun n => UInt8.ofNat n.toNat) = b.map (fun n => UInt8.ofNat n.toNat) := by
    have := congrArg (fun s : ByteArray => s.data.toList) h
    simpa [strOfNums] using this
  have inv : ∀ l : List Int, Byt l → (l.map (fun n => UInt8.ofNat n.toNat)).map (fun b => (b.toNat : Int)) = l := fun l hl => by
    rw [List.map_map]
    conv => rhs; rw [← List.map_id l]
    refine List.map_congr_left fun x hx => ?_
    have := hl x hx
    simp only [Function.comp, id]
    rw [UInt8.toNat_ofNat']
    omega
  rw [← inv a ha, ← inv b hb, h2]
theorem str_eq {a b : List Int} (h : a = b) : ((strOfNums a).toList == (strOfNums b).toList) = true := by simp [h]
theorem str_ne {a b : List Int} (ha : Byt a) (hb : Byt b) (h : ¬ a = b) : ((strOfNums a).toList == (strOfNums b).toList) = false := by
  rw [beq_eq_false_iff_ne]
  intro e
  apply h
  apply strOfNums_inj ha hb
  rw [ByteArray.toList_eq, ByteArray.toList_eq] at e
  exact ByteArray.ext (Array.toList_inj.1 e)
theorem str_eq' {a b : List Int} (h : a = b) : ((strOfNums a).toList != (strOfNums b).toList) = false := by simp [h]
theorem str_ne' {a b : List Int} (ha : Byt a) (hb : Byt b) (h : ¬ a = b) : ((strOfNums a).toList != (strOfNums b).toList) = true := by
  rw [bne, str_ne ha hb h]; rfl
end Go.Proofs.Ytbkcpgaicoagfaa
