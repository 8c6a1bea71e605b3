/- Delta: lists of headers, plainly. -/
import Derived.Test.YtbkcpgaicoagfaaPureInt
set_option linter.unusedVariables false
set_option linter.unusedSimpArgs false
namespace Go.Proofs.Ytbkcpgaicoagfaa

abbrev Hdr := ByteArray × ByteArray
/-- How many headers two lists begin with alike. -/
def endsA : List Hdr → List Hdr → Nat
  | a :: r, b :: q => if a = b then endsA r q + 1 else 0
  | _, _ => 0
/-- How many, behind these, they end with alike. -/
def endsB (a b : List Hdr) : Nat := endsA (a.drop (endsA a b)).reverse (b.drop (endsA a b)).reverse
theorem endsA_le : ∀ (a b : List Hdr), endsA a b ≤ a.length ∧ endsA a b ≤ b.length
  | [], b => by simp [endsA]
  | _ :: _, [] => by simp [endsA]
  | x :: r, y :: q => by
    have := endsA_le r q
    rw [endsA]
    split <;> simp <;> omega
theorem endsA_get : ∀ {a b : List Hdr} {k : Nat}, k < endsA a b → a[k]? = b[k]?
  | [], b, k, h => by simp [endsA] at h
  | _ :: _, [], k, h => by simp [endsA] at h
  | x :: r, y :: q, k, h => by
    rw [endsA] at h
    split at h
    · rename_i e
      cases k with
      | zero => simp [e]
      | succ k =>
        rw [List.getElem?_cons_succ, List.getElem?_cons_succ]
        exact endsA_get (by omega)
    · omega
theorem endsA_eq : ∀ {a b : List Hdr} {j : Nat}, j ≤ a.length → j ≤ b.length → (∀ k, k < j → a[k]? = b[k]?) → (j < a.length → j < b.length → a[j]? ≠ b[j]?) → endsA a b = j
  | [], b, j, h1, h2, h3, h4 => by simp at h1; simp [endsA, h1]
  | _ :: _, [], j, h1, h2, h3, h4 => by simp at h2; simp [endsA, h2]
  | x :: r, y :: q, j, h1, h2, h3, h4 => by
    rw [endsA]
    cases j with
    | zero =>
      have := h4 (by simp) (by simp)
      simp at this
      rw [if_neg this]
    | succ j =>
      have h0 := h3 0 (by omega)
      simp at h0
      rw [if_pos h0, endsA_eq (j := j) (by simpa using h1) (by simpa using h2) (fun k hk => by have := h3 (k + 1) (by omega); simpa using this) (fun ha hb => by have := h4 (by simpa using ha) (by simpa using hb); simpa using this)]
theorem rev_drop_get {α : Type} (a : List α) (f k : Nat) (h : k < a.length - f) : (a.drop f).reverse[k]? = a[a.length - 1 - k]? := by
  rw [List.getElem?_reverse (by rw [List.length_drop]; exact h), List.length_drop, List.getElem?_drop]
  congr 1
  omega
theorem endsB_le (a b : List Hdr) : endsA a b + endsB a b ≤ a.length ∧ endsA a b + endsB a b ≤ b.length := by
  have h1 := endsA_le a b
  have h2 := endsA_le (a.drop (endsA a b)).reverse (b.drop (endsA a b)).reverse
  simp only [List.length_reverse, List.length_drop] at h2
  unfold endsB
  omega
theorem endsB_eq {a b : List Hdr} {f j : Nat} (hf : endsA a b = f) (h1 : j + f ≤ a.length) (h2 : j + f ≤ b.length) (h3 : ∀ k, k < j → a[a.length - 1 - k]? = b[b.length - 1 - k]?) (h4 : j + f < a.length → j + f < b.length → a[a.length - 1 - j]? ≠ b[b.length - 1 - j]?) : endsB a b = j := by
  unfold endsB
  rw [hf]
  refine endsA_eq (by simp; omega) (by simp; omega) (fun k hk => ?_) (fun ha hb => ?_)
  · rw [rev_drop_get _ _ _ (by omega), rev_drop_get _ _ _ (by omega)]
    exact h3 k hk
  · simp at ha hb
    rw [rev_drop_get _ _ _ (by omega), rev_drop_get _ _ _ (by omega)]
    exact h4 (by omega) (by omega)

/-- The new headers' bytes, and the texts behind. -/
def putFs : List ByteArray → List Hdr → List Int × List ByteArray
  | ts, [] => ([], ts)
  | ts, h :: r =>
    let p := putT ts h.1
    let q := putT p.2 h.2
    let z := putFs q.2 r
    (p.1 ++ (q.1 ++ z.1), z.2)
theorem putFs_snoc : ∀ (l : List Hdr) (ts : List ByteArray) (h : Hdr), putFs ts (l ++ [h]) = ((putFs ts l).1 ++ ((putT (putFs ts l).2 h.1).1 ++ (putT (putT (putFs ts l).2 h.1).2 h.2).1), (putT (putT (putFs ts l).2 h.1).2 h.2).2)
  | [], ts, h => by simp [putFs]
  | x :: l, ts, h => by
    rw [List.cons_append, putFs, putFs_snoc l, putFs]
    simp
theorem putT_len2 (ts : List ByteArray) (s : ByteArray) (hs : s.size ≤ 1000000) (hl : ts.length ≤ 1000000) : (putT ts s).1.length ≤ 20 + s.size ∧ ts.length ≤ (putT ts s).2.length ∧ (putT ts s).2.length ≤ ts.length + 1 := by
  unfold putT
  have h0 := leb_len (v := (0 : Int)) (by omega)
  have h1 := leb_len (v := (s.size : Int)) (by omega)
  have hle := idxT_le ts s
  have h2 := leb_len (v := (idxT ts s : Int)) (by omega)
  split
  · simp only [List.length_append, bsOf_len, List.length_singleton]; omega
  · simp only; omega
theorem putFs_len : ∀ (l : List Hdr) (ts : List ByteArray), (∀ h ∈ l, h.1.size ≤ 10000 ∧ h.2.size ≤ 10000) → ts.length + 2 * l.length ≤ 1000000 → (putFs ts l).1.length ≤ 20040 * l.length ∧ ts.length ≤ (putFs ts l).2.length ∧ (putFs ts l).2.length ≤ ts.length + 2 * l.length
  | [], ts, _, _ => by simp [putFs]
  | x :: l, ts, h, hl => by
    rw [List.length_cons] at hl
    have hx := h x (List.mem_cons_self ..)
    have h1 := putT_len2 ts x.1 (by omega) (by omega)
    have h2 := putT_len2 (putT ts x.1).2 x.2 (by omega) (by omega)
    have h3 := putFs_len l (putT (putT ts x.1).2 x.2).2 (fun y hy => h y (List.mem_cons_of_mem _ hy)) (by omega)
    rw [putFs]
    simp only [List.length_append, List.length_cons]
    omega
def pre3 (f g q : Nat) : Nat → List Int
  | 0 => []
  | 1 => leb (f : Int)
  | 2 => leb (f : Int) ++ leb (g : Int)
  | _ => leb (f : Int) ++ (leb (g : Int) ++ leb (q : Int))
def freshD (was list : List Hdr) : List Hdr := (list.take (list.length - endsB was list)).drop (endsA was list)
theorem freshD_len (was list : List Hdr) : (freshD was list).length = list.length - endsA was list - endsB was list := by
  have := endsB_le was list
  unfold freshD
  rw [List.length_drop, List.length_take]
  omega
/-- A list's bytes, from another one on, and the texts behind. -/
def putD (ts : List ByteArray) (was list : List Hdr) : List Int × List ByteArray :=
  (leb (endsA was list : Int) ++ (leb (endsB was list : Int) ++ (leb ((freshD was list).length : Int) ++ (putFs ts (freshD was list)).1)), (putFs ts (freshD was list)).2)
/-- So many new headers. -/
def takeFs (b : List Int) : Nat → List ByteArray → Int → List Hdr × Int × Int × List ByteArray
  | 0, ts, at_ => ([], at_, 0, ts)
  | n + 1, ts, at_ =>
    let r := takeT ts b at_
    if r.2.2.1 ≠ 0 then ([], 0, r.2.2.1, r.2.2.2)
    else
      let q := takeT r.2.2.2 b r.2.1
      if q.2.2.1 ≠ 0 then ([], 0, q.2.2.1, q.2.2.2)
      else
        let z := takeFs b n q.2.2.2 q.2.1
        if z.2.2.1 ≠ 0 then ([], 0, z.2.2.1, z.2.2.2) else ((r.1, q.1) :: z.1, z.2.1, 0, z.2.2.2)
def preFs (l : List Hdr) (z : List Hdr × Int × Int × List ByteArray) : List Hdr × Int × Int × List ByteArray :=
  if z.2.2.1 ≠ 0 then ([], 0, z.2.2.1, z.2.2.2) else (l ++ z.1, z.2.1, 0, z.2.2.2)
theorem takeT_ok2 {ts : List ByteArray} {b : List Int} {at_ : Int} (hb : Byt b) : 0 ≤ (takeT ts b at_).2.1 ∧ (takeT ts b at_).2.1 ≤ b.length ∧ ts.length ≤ (takeT ts b at_).2.2.2.length ∧ (takeT ts b at_).2.2.2.length ≤ ts.length + 1 := by
  unfold takeT
  obtain ⟨⟨v, n, e⟩, h⟩ : ∃ r, lebTake b at_ = r := ⟨_, rfl⟩
  simp only [h]
  split
  · simp
  · rename_i he
    have he : e = 0 := by simpa using he
    subst he
    obtain ⟨a1, a2, a3, _, _, _⟩ := lebTake_exact hb h
    split
    · simp
    · split
      · refine ⟨?_, ?_, ?_, ?_⟩ <;> simp only <;> omega
      · obtain ⟨⟨v2, n2, e2⟩, h2⟩ : ∃ r, lebTake b n = r := ⟨_, rfl⟩
        simp only [h2]
        split
        · simp
        · rename_i he2
          have he2 : e2 = 0 := by simpa using he2
          subst he2
          obtain ⟨b1, b2, b3, _, b5, b6⟩ := lebTake_exact hb h2
          split
          · simp
          · split
            · simp
            · split
              · simp only [List.length_append, List.length_singleton]; omega
              · simp
theorem preFs_nil (z : List Hdr × Int × Int × List ByteArray) (h : z.2.2.1 ≠ 0 → z.1 = [] ∧ z.2.1 = 0) : preFs [] z = z := by
  obtain ⟨l, a, e, t⟩ := z
  unfold preFs
  simp only at h ⊢
  split
  · rename_i h0
    obtain ⟨rfl, rfl⟩ := h h0
    rfl
  · rename_i h0
    have : e = 0 := by simpa using h0
    subst this
    rfl
theorem preFs_preFs (l m : List Hdr) (z : List Hdr × Int × Int × List ByteArray) : preFs l (preFs m z) = preFs (l ++ m) z := by
  obtain ⟨x, a, e, t⟩ := z
  unfold preFs
  simp only
  by_cases h : e = 0
  · simp [h]
  · simp [h]
theorem takeFs_err (b : List Int) : ∀ (n : Nat) (ts : List ByteArray) (a : Int), (takeFs b n ts a).2.2.1 ≠ 0 → (takeFs b n ts a).1 = [] ∧ (takeFs b n ts a).2.1 = 0
  | 0, ts, a, h => by simp [takeFs] at h
  | n + 1, ts, a, h => by
    rw [takeFs] at h ⊢
    simp only at h ⊢
    split
    · exact ⟨rfl, rfl⟩
    · rename_i h1
      rw [if_neg h1] at h
      split
      · exact ⟨rfl, rfl⟩
      · rename_i h2
        rw [if_neg h2] at h
        split
        · exact ⟨rfl, rfl⟩
        · rename_i h3
          rw [if_neg h3] at h
          simp at h
theorem takeFs_e1 {b : List Int} {n : Nat} {ts ts1 : List ByteArray} {a nx er : Int} {s : ByteArray} (h : takeT ts b a = (s, nx, er, ts1)) (he : er ≠ 0) : takeFs b (n + 1) ts a = ([], 0, er, ts1) := by
  rw [takeFs, h]
  simp only
  rw [if_pos he]
theorem takeFs_e2 {b : List Int} {n : Nat} {ts ts1 ts2 : List ByteArray} {a nx nx2 er : Int} {s s2 : ByteArray} (h : takeT ts b a = (s, nx, 0, ts1)) (h2 : takeT ts1 b nx = (s2, nx2, er, ts2)) (he : er ≠ 0) : takeFs b (n + 1) ts a = ([], 0, er, ts2) := by
  rw [takeFs, h]
  simp only
  rw [if_neg (by simp), h2]
  simp only
  rw [if_pos he]
theorem takeFs_ok {b : List Int} {n : Nat} {ts ts1 ts2 : List ByteArray} {a nx nx2 : Int} {s s2 : ByteArray} (h : takeT ts b a = (s, nx, 0, ts1)) (h2 : takeT ts1 b nx = (s2, nx2, 0, ts2)) : takeFs b (n + 1) ts a = preFs [(s, s2)] (takeFs b n ts2 nx2) := by
  rw [takeFs, h]
  simp only
  rw [if_neg (by simp), h2]
  simp only
  rw [if_neg (by simp)]
  rfl
theorem takeFs_len {b : List Int} (hb : Byt b) : ∀ (n : Nat) (ts : List ByteArray) (a : Int), ts.length ≤ (takeFs b n ts a).2.2.2.length ∧ (takeFs b n ts a).2.2.2.length ≤ ts.length + 2 * n ∧ ((takeFs b n ts a).2.2.1 = 0 → (takeFs b n ts a).1.length = n)
  | 0, ts, a => by simp [takeFs]
  | n + 1, ts, a => by
    obtain ⟨⟨s, nx, er, ts1⟩, h1⟩ : ∃ r, takeT ts b a = r := ⟨_, rfl⟩
    have k1 := takeT_ok2 (ts := ts) (at_ := a) hb
    rw [h1] at k1
    simp only at k1
    by_cases e1 : er = 0
    · subst e1
      obtain ⟨⟨s2, nx2, er2, ts2⟩, h2⟩ : ∃ r, takeT ts1 b nx = r := ⟨_, rfl⟩
      have k2 := takeT_ok2 (ts := ts1) (at_ := nx) hb
      rw [h2] at k2
      simp only at k2
      by_cases e2 : er2 = 0
      · subst e2
        have k3 := takeFs_len hb n ts2 nx2
        rw [takeFs_ok h1 h2]
        unfold preFs
        split
        · rename_i h0
          exact ⟨by simp only; omega, by simp only; omega, fun h => absurd h h0⟩
        · rename_i h0
          have h0 : (takeFs b n ts2 nx2).2.2.1 = 0 := by simpa using h0
          refine ⟨by simp only; omega, by simp only; omega, fun _ => ?_⟩
          simp only [List.length_append, List.length_singleton, k3.2.2 h0]
          omega
      · rw [takeFs_e2 h1 h2 e2]
        exact ⟨by simp only; omega, by simp only; omega, fun h => absurd h e2⟩
    · rw [takeFs_e1 h1 e1]
      exact ⟨by simp only; omega, by simp only; omega, fun h => absurd h e1⟩
/-- The list that stands at a place, from another one on. -/
def takeD (ts : List ByteArray) (b : List Int) (at_ : Int) (was : List Hdr) : List Hdr × Int × Int × List ByteArray :=
  let r0 := lebTake b at_
  if r0.2.2 ≠ 0 then ([], 0, r0.2.2, ts)
  else
    let r1 := lebTake b r0.2.1
    if r1.2.2 ≠ 0 then ([], 0, r1.2.2, ts)
    else
      let r2 := lebTake b r1.2.1
      if r2.2.2 ≠ 0 then ([], 0, r2.2.2, ts)
      else if (was.length : Int) < r0.1 + r1.1 then ([], 0, 5, ts)
      else if 25 < r0.1 + r1.1 + r2.1 then ([], 0, 2, ts)
      else
        let z := takeFs b r2.1.toNat ts r2.2.1
        if z.2.2.1 ≠ 0 then ([], 0, z.2.2.1, z.2.2.2)
        else
          let out := was.take r0.1.toNat ++ (z.1 ++ was.drop (was.length - r1.1.toNat))
          if endsA was out ≠ r0.1.toNat ∨ endsB was out ≠ r1.1.toNat then ([], 0, 4, z.2.2.2)
          else (out, z.2.1, 0, z.2.2.2)
end Go.Proofs.Ytbkcpgaicoagfaa
