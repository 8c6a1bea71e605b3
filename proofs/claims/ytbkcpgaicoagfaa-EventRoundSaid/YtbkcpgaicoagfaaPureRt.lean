/- The answer's Take, in plain words. -/
import Derived.Test.YtbkcpgaicoagfaaEg27
set_option linter.unusedVariables false
set_option linter.unusedSimpArgs false
namespace Go.Proofs.Ytbkcpgaicoagfaa
open Go.RowKit

theorem numR_err {bs : List Int} {a e : Int} (h : e ≠ 0) : numR bs a e = (0, a, e) := by unfold numR; rw [if_neg h]
theorem numR_ok (bs : List Int) (a : Int) : numR bs a 0 = lebTake bs a := by unfold numR; rw [if_pos rfl]
theorem textR_err {ts : List ByteArray} {bs : List Int} {a e : Int} (h : e ≠ 0) : textR ts bs a e = (ByteArray.empty, a, e, ts) := by unfold textR; rw [if_neg h]
theorem headR_err {ts : List ByteArray} {bs : List Int} {a e : Int} {was : List Hdr} (h : e ≠ 0) : headR ts bs a e was = ([], a, e, ts) := by unfold headR; rw [if_neg h]
/-- What setting a text leaves as it was. -/
structure SameN (x y : Ev) : Prop where
  ki : y.ki = x.ki
  se : y.se = x.se
  ti : y.ti = x.ti
  hs : y.hs = x.hs
  st : y.st = x.st
  co : y.co = x.co
  cr : y.cr = x.cr
  nn : y.nn = x.nn
theorem SameN.rf (x : Ev) : SameN x x := ⟨rfl, rfl, rfl, rfl, rfl, rfl, rfl, rfl⟩
theorem SameN.tr {x y z : Ev} (h : SameN x y) (k : SameN y z) : SameN x z := ⟨k.ki.trans h.ki, k.se.trans h.se, k.ti.trans h.ti, k.hs.trans h.hs, k.st.trans h.st, k.co.trans h.co, k.cr.trans h.cr, k.nn.trans h.nn⟩
theorem setT_same (x : Ev) (f : Nat) (s : ByteArray) : SameN x (setT x f s) := by
  unfold setT
  split
  · exact ⟨rfl, rfl, rfl, rfl, rfl, rfl, rfl, rfl⟩
  · split
    · exact ⟨rfl, rfl, rfl, rfl, rfl, rfl, rfl, rfl⟩
    · split
      · exact ⟨rfl, rfl, rfl, rfl, rfl, rfl, rfl, rfl⟩
      · exact ⟨rfl, rfl, rfl, rfl, rfl, rfl, rfl, rfl⟩
theorem wordsR_same (bs : List Int) : ∀ (l : List Nat) (x : Ev) (a e : Int) (ts : List ByteArray), SameN x (wordsR bs l x a e ts).1
  | [], x, _, _, _ => SameN.rf x
  | f :: l, x, a, e, ts => by
    rw [wordsR]
    exact (setT_same x f _).tr (wordsR_same bs l _ _ _ _)
theorem wordsR_snd (bs : List Int) : ∀ (l : List Nat) (x x' : Ev) (a e : Int) (ts : List ByteArray), (wordsR bs l x a e ts).2 = (wordsR bs l x' a e ts).2
  | [], _, _, _, _, _ => rfl
  | f :: l, x, x', a, e, ts => by
    rw [wordsR, wordsR]
    exact wordsR_snd bs l _ _ _ _ _
theorem wordsR_err (bs : List Int) : ∀ (l : List Nat) (x : Ev) (a e : Int) (ts : List ByteArray), e ≠ 0 → (wordsR bs l x a e ts).2 = (a, e, ts)
  | [], _, _, _, _, _ => rfl
  | f :: l, x, a, e, ts, h => by
    rw [wordsR, textR_err h]
    exact wordsR_err bs l _ a e ts h
theorem numsR_err (bs : List Int) : ∀ (l : List Nat) (x : Ev) (a e : Int), e ≠ 0 → (numsR bs l x a e).2 = (a, e)
  | [], _, _, _, _ => rfl
  | f :: l, x, a, e, h => by
    rw [numsR, numR_err h]
    exact numsR_err bs l _ a e h
theorem takeH_err {s : PB} {bs : List Int} {more : Int} {x : Ev} {a e : Int} {ts : List ByteArray} (h : e ≠ 0) : takeH s bs more x a e ts = (zeroE, 0, e, ⟨ts, s.ti, s.L⟩) := by
  unfold takeH
  simp only [headR_err h]
  by_cases hL : isL x.ki = true <;> simp [hL, h]
theorem takeM_err {s : PB} {bs : List Int} {more : Int} {x : Ev} {a e : Int} (h : e ≠ 0) : takeM s bs more x a e = (zeroE, 0, e, s) := by
  have go : ∀ (l : List Nat) (x : Ev), takeH s bs more (wordsR bs l x a e s.ts).1 (wordsR bs l x a e s.ts).2.1 (wordsR bs l x a e s.ts).2.2.1 (wordsR bs l x a e s.ts).2.2.2 = (zeroE, 0, e, s) := fun l x => by
    rw [wordsR_err bs l x a e s.ts h]
    exact takeH_err h
  unfold takeM
  simp only [numR_err h]
  simp only [h, false_and, if_false]
  split
  · exact go _ _
  · split
    · exact go _ _
    · exact go _ _

/-! ### The numbers ahead of the texts -/
def numL (bs : List Int) : Nat → Int → List Int × Int × Int
  | 0, a => ([], a, 0)
  | m + 1, a => ((numL bs m a).1 ++ [(numR bs (numL bs m a).2.1 (numL bs m a).2.2).1], (numR bs (numL bs m a).2.1 (numL bs m a).2.2).2)
theorem numL_len (bs : List Int) (a : Int) : ∀ m, (numL bs m a).1.length = m
  | 0 => rfl
  | m + 1 => by rw [numL]; simp [numL_len bs a m]
theorem numL_step {bs : List Int} {m : Nat} {a b e : Int} {zs : List Int} (h : numL bs (m + 1) a = (zs, b, e)) (he : e = 0) : ∃ zs' a' z, zs = zs' ++ [z] ∧ numL bs m a = (zs', a', 0) ∧ lebTake bs a' = (z, b, 0) := by
  subst he
  obtain ⟨⟨ys, a', e'⟩, hy⟩ : ∃ q, numL bs m a = q := ⟨_, rfl⟩
  rw [numL, hy] at h
  dsimp only at h
  by_cases h0 : e' = 0
  · subst h0
    rw [numR_ok] at h
    obtain ⟨⟨z, b', e2⟩, hz⟩ : ∃ q, lebTake bs a' = q := ⟨_, rfl⟩
    rw [hz] at h
    simp only [Prod.mk.injEq] at h
    obtain ⟨h1, h2, h3⟩ := h
    exact ⟨ys, a', z, h1.symm, hy, by rw [hz, h2, h3]⟩
  · rw [numR_err h0] at h
    simp only [Prod.mk.injEq] at h
    exact absurd h.2.2 h0
theorem numL_snoc {bs : List Int} {m : Nat} {a a' : Int} {zs : List Int} (h : numL bs m a = (zs, a', 0)) : numL bs (m + 1) a = (zs ++ [(lebTake bs a').1], (lebTake bs a').2) := by
  rw [numL, h]
  simp only [numR_ok]
def manyE (ki : Int) : Nat := if ki = 1 then 3 else if ki = 2 then 5 else if ki = 3 then 3 else if ki = 4 then 2 else if ki = 5 then 3 else if ki = 6 then 3 else 4
/-- The event, as its numbers tell. -/
def xOf (s : PB) (ki : Int) (zs : List Int) : Ev :=
  let x : Ev := { zeroE with ki := ki, se := smallV (zs.getD 0 0), ti := s.ti + max (smallV (zs.getD 1 0)) 0 }
  if ki = 1 then { x with co := smallV (zs.getD 2 0) }
  else if ki = 2 then { x with co := smallV (zs.getD 2 0), cr := decide (zs.getD 3 0 = 1), nn := zs.getD 4 0 }
  else if ki = 3 then { x with st := smallV (zs.getD 2 0) }
  else if ki = 5 ∨ ki = 6 then { x with nn := zs.getD 2 0 }
  else if ki = 7 then { x with co := smallV (zs.getD 2 0), st := smallV (zs.getD 3 0) }
  else x
def takeX (s : PB) (bs : List Int) (more : Int) (x : Ev) (a : Int) : Ev × Int × Int × PB :=
  let q := wordsR bs (worF x.ki) x a 0 s.ts
  takeH s bs more q.1 q.2.1 q.2.2.1 q.2.2.2
theorem smallV_ki {n : Int} (h : 1 ≤ n ∧ n ≤ 7) : smallV n = n := by unfold smallV; rw [if_neg (by omega)]
theorem takeB_bad {s : PB} {bs : List Int} {at_ n a : Int} (h : lebTake bs at_ = (n, a, 0)) (h0 : 0 ≤ n) (hn : ¬ (1 ≤ n ∧ n ≤ 7)) : takeB s bs at_ = (zeroE, 0, 4, s) := by
  unfold takeB
  simp only [numR_ok, h]
  have : ¬ (1 ≤ smallV n ∧ smallV n ≤ 7) := by unfold smallV; split <;> omega
  simp [this]
theorem takeB_err0 {s : PB} {bs : List Int} {at_ n a e : Int} (h : lebTake bs at_ = (n, a, e)) (he : e ≠ 0) : takeB s bs at_ = (zeroE, 0, e, s) := by
  unfold takeB
  simp only [numR_ok, h, numR_err he, he, false_and, if_false]
  rw [numsR_err bs _ _ _ _ he]
  exact takeM_err he
set_option maxHeartbeats 3200000 in
theorem takeB_err {s : PB} {bs : List Int} {at_ ki a1 a z a' e : Int} {i : Nat} {zs : List Int} (h : lebTake bs at_ = (ki, a1, 0)) (hk : 1 ≤ ki ∧ ki ≤ 7) (hz : numL bs i a1 = (zs, a, 0)) (hi : i < manyE ki) (ht : lebTake bs a = (z, a', e)) (he : e ≠ 0) (hc : ki = 2 → 4 ≤ i → zs.getD 3 0 ≤ 1) : takeB s bs at_ = (zeroE, 0, e, s) := by
  have key : ∀ (l : List Nat) (x : Ev) (b : Int), takeM s bs x.ki (numsR bs l x b e).1 (numsR bs l x b e).2.1 (numsR bs l x b e).2.2 = (zeroE, 0, e, s) := fun l x b => by
    rw [numsR_err bs l x b e he]; exact takeM_err he
  have hsk := smallV_ki hk
  unfold takeB
  simp only [numR_ok, h, hsk]
  simp only [hk.1, hk.2, and_self, not_true_eq_false, and_false, if_false]
  match i, hz, hi with
  | 0, hz, hi =>
    simp only [numL, Prod.mk.injEq] at hz
    obtain ⟨-, rfl, -⟩ := hz
    simp only [ht, numR_err he, numsR_err bs _ _ _ _ he]
    exact takeM_err he
  | 1, hz, hi =>
    obtain ⟨z0, b0, y0, rfl, g0, t0⟩ := numL_step hz rfl
    simp only [numL, Prod.mk.injEq] at g0
    obtain ⟨rfl, rfl, -⟩ := g0
    simp only [t0, numR_ok, ht, numsR_err bs _ _ _ _ he]
    exact takeM_err he
  | 2, hz, hi =>
    obtain ⟨z1, b1, y1, rfl, g1, t1⟩ := numL_step hz rfl
    obtain ⟨z0, b0, y0, rfl, g0, t0⟩ := numL_step g1 rfl
    simp only [numL, Prod.mk.injEq] at g0
    obtain ⟨rfl, rfl, -⟩ := g0
    simp only [t0, numR_ok, t1]
    rcases (by omega : ki = 1 ∨ ki = 2 ∨ ki = 3 ∨ ki = 4 ∨ ki = 5 ∨ ki = 6 ∨ ki = 7) with rfl | rfl | rfl | rfl | rfl | rfl | rfl
    · simp [numF, numsR, numR_ok, ht]; exact takeM_err he
    · simp [numF, numsR, numR_ok, ht]; exact takeM_err he
    · simp [numF, numsR, numR_ok, ht]; exact takeM_err he
    · exact absurd hi (by decide)
    · simp [numF, numsR, takeM, numR_ok, ht, wordsR_err bs _ _ _ _ _ he]; exact takeH_err he
    · simp [numF, numsR, takeM, numR_ok, ht, wordsR_err bs _ _ _ _ _ he]; exact takeH_err he
    · simp [numF, numsR, numR_ok, ht, numR_err he]; exact takeM_err he
  | 3, hz, hi =>
    obtain ⟨z2, b2, y2, rfl, g2, t2⟩ := numL_step hz rfl
    obtain ⟨z1, b1, y1, rfl, g1, t1⟩ := numL_step g2 rfl
    obtain ⟨z0, b0, y0, rfl, g0, t0⟩ := numL_step g1 rfl
    simp only [numL, Prod.mk.injEq] at g0
    obtain ⟨rfl, rfl, -⟩ := g0
    simp only [t0, numR_ok, t1]
    rcases (by omega : ki = 1 ∨ ki = 2 ∨ ki = 3 ∨ ki = 4 ∨ ki = 5 ∨ ki = 6 ∨ ki = 7) with rfl | rfl | rfl | rfl | rfl | rfl | rfl
    · exact absurd hi (by decide)
    · simp [numF, numsR, takeM, setI, numR_ok, t2, ht, numR_err he, he, wordsR_err bs _ _ _ _ _ he]; exact takeH_err he
    · exact absurd hi (by decide)
    · exact absurd hi (by decide)
    · exact absurd hi (by decide)
    · exact absurd hi (by decide)
    · simp [numF, numsR, numR_ok, t2, ht]; exact takeM_err he
  | 4, hz, hi =>
    obtain ⟨z3, b3, y3, rfl, g3, t3⟩ := numL_step hz rfl
    obtain ⟨z2, b2, y2, rfl, g2, t2⟩ := numL_step g3 rfl
    obtain ⟨z1, b1, y1, rfl, g1, t1⟩ := numL_step g2 rfl
    obtain ⟨z0, b0, y0, rfl, g0, t0⟩ := numL_step g1 rfl
    simp only [numL, Prod.mk.injEq] at g0
    obtain ⟨rfl, rfl, -⟩ := g0
    simp only [t0, numR_ok, t1]
    rcases (by omega : ki = 1 ∨ ki = 2 ∨ ki = 3 ∨ ki = 4 ∨ ki = 5 ∨ ki = 6 ∨ ki = 7) with rfl | rfl | rfl | rfl | rfl | rfl | rfl
    · exact absurd hi (by decide)
    · have hc2 : ¬ (1 < y3) := by have := hc rfl (by omega); simp at this; omega
      simp [numF, numsR, takeM, setI, numR_ok, t2, t3, ht, hc2, wordsR_err bs _ _ _ _ _ he]; exact takeH_err he
    · exact absurd hi (by decide)
    · exact absurd hi (by decide)
    · exact absurd hi (by decide)
    · exact absurd hi (by decide)
    · exact absurd hi (by decide)
  | i + 5, hz, hi =>
    exfalso
    unfold manyE at hi
    repeat' split at hi
    all_goals omega
/-- The second event's flag may be 0 or 1. -/
theorem takeB_cred {s : PB} {bs : List Int} {at_ a1 a z a' : Int} {zs : List Int} (h : lebTake bs at_ = (2, a1, 0)) (hz : numL bs 3 a1 = (zs, a, 0)) (ht : lebTake bs a = (z, a', 0)) (h1 : 1 < z) : takeB s bs at_ = (zeroE, 0, 4, s) := by
  have hsk := smallV_ki (n := 2) (by omega)
  obtain ⟨z2, b2, y2, rfl, g2, t2⟩ := numL_step hz rfl
  obtain ⟨z1, b1, y1, rfl, g1, t1⟩ := numL_step g2 rfl
  obtain ⟨z0, b0, y0, rfl, g0, t0⟩ := numL_step g1 rfl
  simp only [numL, Prod.mk.injEq] at g0
  obtain ⟨rfl, rfl, -⟩ := g0
  unfold takeB
  simp only [numR_ok, h, hsk, t0, t1]
  simp [numF, numsR, takeM, setI, numR_ok, t2, ht, h1]
set_option maxHeartbeats 3200000 in
theorem takeB_full {s : PB} {bs : List Int} {at_ ki a1 a : Int} {zs : List Int} (h : lebTake bs at_ = (ki, a1, 0)) (hk : 1 ≤ ki ∧ ki ≤ 7) (hz : numL bs (manyE ki) a1 = (zs, a, 0)) (hc : ki = 2 → zs.getD 3 0 ≤ 1) : takeB s bs at_ = takeX s bs (smallV (zs.getD 1 0)) (xOf s ki zs) a := by
  have hsk := smallV_ki hk
  unfold takeB
  simp only [numR_ok, h, hsk]
  simp only [hk.1, hk.2, and_self, not_true_eq_false, and_false, if_false]
  rcases (by omega : ki = 1 ∨ ki = 2 ∨ ki = 3 ∨ ki = 4 ∨ ki = 5 ∨ ki = 6 ∨ ki = 7) with rfl | rfl | rfl | rfl | rfl | rfl | rfl
  · obtain ⟨z2, b2, y2, rfl, g2, t2⟩ := numL_step (m := 2) hz rfl
    obtain ⟨z1, b1, y1, rfl, g1, t1⟩ := numL_step g2 rfl
    obtain ⟨z0, b0, y0, rfl, g0, t0⟩ := numL_step g1 rfl
    simp only [numL, Prod.mk.injEq] at g0
    obtain ⟨rfl, rfl, -⟩ := g0
    simp [t0, t1, t2, numR_ok, numF, numsR, takeM, setI, takeX, xOf]
  · obtain ⟨z4, b4, y4, rfl, g4, t4⟩ := numL_step (m := 4) hz rfl
    obtain ⟨z3, b3, y3, rfl, g3, t3⟩ := numL_step g4 rfl
    obtain ⟨z2, b2, y2, rfl, g2, t2⟩ := numL_step g3 rfl
    obtain ⟨z1, b1, y1, rfl, g1, t1⟩ := numL_step g2 rfl
    obtain ⟨z0, b0, y0, rfl, g0, t0⟩ := numL_step g1 rfl
    simp only [numL, Prod.mk.injEq] at g0
    obtain ⟨rfl, rfl, -⟩ := g0
    have hc2 : ¬ (1 < y3) := by have := hc rfl; simp at this; omega
    simp [t0, t1, t2, t3, t4, numR_ok, numF, numsR, takeM, setI, takeX, xOf, hc2]
  · obtain ⟨z2, b2, y2, rfl, g2, t2⟩ := numL_step (m := 2) hz rfl
    obtain ⟨z1, b1, y1, rfl, g1, t1⟩ := numL_step g2 rfl
    obtain ⟨z0, b0, y0, rfl, g0, t0⟩ := numL_step g1 rfl
    simp only [numL, Prod.mk.injEq] at g0
    obtain ⟨rfl, rfl, -⟩ := g0
    simp [t0, t1, t2, numR_ok, numF, numsR, takeM, setI, takeX, xOf]
  · obtain ⟨z1, b1, y1, rfl, g1, t1⟩ := numL_step (m := 1) hz rfl
    obtain ⟨z0, b0, y0, rfl, g0, t0⟩ := numL_step g1 rfl
    simp only [numL, Prod.mk.injEq] at g0
    obtain ⟨rfl, rfl, -⟩ := g0
    simp [t0, t1, numR_ok, numF, numsR, takeM, setI, takeX, xOf]
  · obtain ⟨z2, b2, y2, rfl, g2, t2⟩ := numL_step (m := 2) hz rfl
    obtain ⟨z1, b1, y1, rfl, g1, t1⟩ := numL_step g2 rfl
    obtain ⟨z0, b0, y0, rfl, g0, t0⟩ := numL_step g1 rfl
    simp only [numL, Prod.mk.injEq] at g0
    obtain ⟨rfl, rfl, -⟩ := g0
    simp [t0, t1, t2, numR_ok, numF, numsR, takeM, setI, takeX, xOf]
  · obtain ⟨z2, b2, y2, rfl, g2, t2⟩ := numL_step (m := 2) hz rfl
    obtain ⟨z1, b1, y1, rfl, g1, t1⟩ := numL_step g2 rfl
    obtain ⟨z0, b0, y0, rfl, g0, t0⟩ := numL_step g1 rfl
    simp only [numL, Prod.mk.injEq] at g0
    obtain ⟨rfl, rfl, -⟩ := g0
    simp [t0, t1, t2, numR_ok, numF, numsR, takeM, setI, takeX, xOf]
  · obtain ⟨z3, b3, y3, rfl, g3, t3⟩ := numL_step (m := 3) hz rfl
    obtain ⟨z2, b2, y2, rfl, g2, t2⟩ := numL_step g3 rfl
    obtain ⟨z1, b1, y1, rfl, g1, t1⟩ := numL_step g2 rfl
    obtain ⟨z0, b0, y0, rfl, g0, t0⟩ := numL_step g1 rfl
    simp only [numL, Prod.mk.injEq] at g0
    obtain ⟨rfl, rfl, -⟩ := g0
    simp [t0, t1, t2, t3, numR_ok, numF, numsR, takeM, setI, takeX, xOf]

/-! ### The answer's own words -/
/-- Whether the numbers are too great: of session and tick; of all. -/
def bad0 (zs : List Int) : Bool := decide (1048576 < zs.getD 0 0) || decide (1099511627776 < zs.getD 1 0)
def bad1 (ki : Int) (zs : List Int) : Bool := bad0 zs || ((!(decide (ki = 2) || decide (ki = 5) || decide (ki = 6))) && (zs.drop 2).any (fun z => decide (1048576 < z)))
def bad2 (ki : Int) (zs : List Int) : Bool := bad1 ki zs || (decide (ki = 2) && decide (2 < zs.getD 2 0))
/-- The event, as the answer fills it in. -/
def xRef (s : PB) (ki : Int) (zs : List Int) : Ev :=
  let x : Ev := if bad0 zs then { zeroE with ki := ki } else { zeroE with ki := ki, se := zs.getD 0 0, ti := s.ti + zs.getD 1 0 }
  if bad1 ki zs then x
  else if ki = 1 then { x with co := zs.getD 2 0 }
  else if ki = 2 then { x with co := zs.getD 2 0 % 3, cr := decide (zs.getD 3 0 = 1), nn := zs.getD 4 0 }
  else if ki = 3 then { x with st := zs.getD 2 0 }
  else if ki = 5 ∨ ki = 6 then { x with nn := zs.getD 2 0 }
  else if ki = 7 then { x with co := zs.getD 2 0, st := zs.getD 3 0 }
  else x
/-- No list is kept for a session that may not be. -/
def LOk (s : PB) : Prop := ∀ se an, (se < 0 ∨ 1048576 < se) → s.L se an = []
def wasR (s : PB) (ki : Int) (zs : List Int) : List Hdr := if zs.getD 0 0 ≤ 1048576 then s.L (zs.getD 0 0) (decide (ki = 3)) else []
/-- Behind the texts, in the answer's words. -/
def refH (s : PB) (bs : List Int) (ki : Int) (zs : List Int) (x : Ev) (a e : Int) (ts : List ByteArray) : Ev × Int × Int × PB :=
  let h := if isL ki then headR ts bs a e (wasR s ki zs) else ([], a, e, ts)
  let y : Ev := if isL ki then { x with hs := h.1 } else x
  if h.2.2.1 ≠ 0 then (zeroE, 0, h.2.2.1, ⟨h.2.2.2, s.ti, s.L⟩)
  else if bad2 ki zs = true ∨ goodE y = false then (zeroE, 0, 4, ⟨h.2.2.2, s.ti, s.L⟩)
  else (y, h.2.1, 0, toldB s h.2.2.2 y)
theorem goodE_num {y : Ev} (h : goodE y = true) (h2 : y.ki = 2) : y.co = 1 ∨ y.co = 2 := by
  unfold goodE goodK at h
  rw [if_neg (by omega), if_pos h2] at h
  simp only [Bool.and_eq_true, decide_eq_true_eq, Bool.or_eq_true] at h
  omega
set_option maxHeartbeats 3200000 in
theorem ref_eq {s : PB} {bs : List Int} {ki a : Int} {zs : List Int} (hk : 1 ≤ ki ∧ ki ≤ 7) (hl : zs.length = manyE ki) (hz : ∀ z ∈ zs, 0 ≤ z) (hL : LOk s) (hs0 : 0 ≤ s.ti) (hs1 : s.ti ≤ 1099511627776) :
    refH s bs ki zs (wordsR bs (worF ki) (xRef s ki zs) a 0 s.ts).1 (wordsR bs (worF ki) (xRef s ki zs) a 0 s.ts).2.1 (wordsR bs (worF ki) (xRef s ki zs) a 0 s.ts).2.2.1 (wordsR bs (worF ki) (xRef s ki zs) a 0 s.ts).2.2.2 = takeX s bs (smallV (zs.getD 1 0)) (xOf s ki zs) a := by
  have hkx : (xOf s ki zs).ki = ki := by unfold xOf; dsimp only; (repeat' split) <;> rfl
  have hse : (xOf s ki zs).se = smallV (zs.getD 0 0) := by unfold xOf; dsimp only; (repeat' split) <;> rfl
  have hti : (xOf s ki zs).ti = s.ti + max (smallV (zs.getD 1 0)) 0 := by unfold xOf; dsimp only; (repeat' split) <;> rfl
  have hget : ∀ i, 0 ≤ zs.getD i 0 := fun i => by
    rw [List.getD_eq_getElem?_getD]
    cases h : zs[i]? with
    | none => simp
    | some z => simpa using hz z (List.mem_of_getElem? h)
  have h0 := hget 0
  have h1 := hget 1
  unfold takeX
  rw [hkx]
  dsimp only
  rw [wordsR_snd bs (worF ki) (xRef s ki zs) (xOf s ki zs) a 0 s.ts]
  have hsm := wordsR_same bs (worF ki) (xOf s ki zs) a 0 s.ts
  obtain ⟨⟨a2, e2, ts2⟩, hq⟩ : ∃ q, (wordsR bs (worF ki) (xOf s ki zs) a 0 s.ts).2 = q := ⟨_, rfl⟩
  have hwas : wasR s ki zs = s.L (smallV (zs.getD 0 0)) (decide (ki = 3)) := by
    unfold wasR
    split
    · rename_i h
      have : smallV (zs.getD 0 0) = zs.getD 0 0 := by unfold smallV; rw [if_neg (by omega)]
      rw [this]
    · rename_i h
      refine (hL _ _ ?_).symm
      unfold smallV
      split
      · left; omega
      · right; omega
  obtain ⟨y, hy⟩ : ∃ y, (wordsR bs (worF ki) (xOf s ki zs) a 0 s.ts).1 = y := ⟨_, rfl⟩
  rw [hy] at hsm
  rw [hq, hy]
  dsimp only
  have hyk : y.ki = ki := hsm.ki.trans hkx
  have hys : y.se = smallV (zs.getD 0 0) := hsm.se.trans hse
  have hiy : isL y.ki = isL ki := by rw [hyk]
  have hwy : s.L y.se (decide (y.ki = 3)) = s.L (smallV (zs.getD 0 0)) (decide (ki = 3)) := by rw [hyk, hys]
  unfold refH takeH
  rw [hiy, hwy, hwas]
  by_cases hb : bad2 ki zs = true
  · -- both refuse
    have hbadE : ∀ hs', smallV (zs.getD 1 0) < 0 ∨ goodE (if isL ki = true then { y with hs := hs' } else y) = false := fun hs' => by
      by_cases hm : smallV (zs.getD 1 0) < 0
      · exact .inl hm
      · right
        cases hg : goodE (if isL ki = true then { y with hs := hs' } else y) with
        | false => rfl
        | true =>
          exfalso
          have hG := goodP_of hg
          obtain ⟨y2, hy2, hfe⟩ : ∃ y2 : Ev, (if isL ki = true then { y with hs := hs' } else y) = y2 ∧ y2.ki = ki ∧ y2.se = y.se ∧ y2.ti = y.ti ∧ y2.co = y.co ∧ y2.st = y.st := by
            refine ⟨_, rfl, ?_⟩
            split <;> exact ⟨hyk, rfl, rfl, rfl, rfl⟩
          rw [hy2] at hG hg
          obtain ⟨f1, f2, f3, f4, f5⟩ := hfe
          have g1 := hG.se
          have g2 := hG.ti
          have g3 := hG.num
          rw [f1] at g3
          rw [f2, hys] at g1
          rw [f3, hsm.ti, hti] at g2
          have hb0 : bad0 zs = false := by
            unfold bad0
            simp only [Bool.or_eq_false_iff, decide_eq_false_iff_not]
            refine ⟨fun h => ?_, fun h => ?_⟩
            · unfold smallV at g1; split at g1 <;> omega
            · unfold smallV at g2 hm; split at hm
              · omega
              · split at g2 <;> omega
          unfold bad2 bad1 at hb
          rw [hb0, Bool.false_or] at hb
          have hyco : y.co = (xOf s ki zs).co := hsm.co
          have hyst : y.st = (xOf s ki zs).st := hsm.st
          rcases (by omega : ki = 1 ∨ ki = 2 ∨ ki = 3 ∨ ki = 4 ∨ ki = 5 ∨ ki = 6 ∨ ki = 7) with rfl | rfl | rfl | rfl | rfl | rfl | rfl
          · have hl3 : zs.length = 3 := hl
            have g4 := g3 8 (by decide)
            simp only [fldI, if_true, f4, hyco, xOf] at g4
            obtain ⟨c, hc⟩ : ∃ c, zs.drop 2 = [c] := by
              match zs, hl3 with
              | [_, _, c], _ => exact ⟨c, rfl⟩
            have hc2 : zs.getD 2 0 = c := by
              match zs, hl3, hc with
              | [_, _, _], _, hc => simpa using hc
            rw [hc] at hb
            simp at hb
            rw [hc2] at g4
            unfold smallV at g4; split at g4 <;> omega
          · have hcc := goodE_num hg f1
            rw [f4, hyco] at hcc
            simp [xOf] at hcc hb
            have := hget 2
            simp at this
            unfold smallV at hcc
            split at hcc <;> omega
          · have hl3 : zs.length = 3 := hl
            have g4 := g3 7 (by decide)
            simp [fldI, f5, hyst, xOf] at g4
            obtain ⟨c, hc⟩ : ∃ c, zs.drop 2 = [c] := by
              match zs, hl3 with
              | [_, _, c], _ => exact ⟨c, rfl⟩
            have hc2 : zs[2]?.getD 0 = c := by
              match zs, hl3, hc with
              | [_, _, _], _, hc => simpa using hc
            rw [hc] at hb
            simp at hb
            rw [hc2] at g4
            unfold smallV at g4; split at g4 <;> omega
          · have hl3 : zs.length = 2 := hl
            have : zs.drop 2 = [] := List.drop_eq_nil_of_le (by omega)
            rw [this] at hb
            simp at hb
          · simp at hb
          · simp at hb
          · have hl3 : zs.length = 4 := hl
            have g4 := g3 8 (by decide)
            have g5 := g3 7 (by decide)
            simp [fldI, f4, hyco, xOf] at g4
            simp [fldI, f5, hyst, xOf] at g5
            obtain ⟨c, d, hc, hc2, hc3⟩ : ∃ c d, zs.drop 2 = [c, d] ∧ zs[2]?.getD 0 = c ∧ zs[3]?.getD 0 = d := by
              match zs, hl3 with
              | [_, _, c, d], _ => exact ⟨c, d, rfl, rfl, rfl⟩
            rw [hc] at hb
            simp at hb
            rw [hc2] at g4
            rw [hc3] at g5
            unfold smallV at g4 g5
            split at g4 <;> split at g5 <;> omega
    by_cases hi : isL ki = true
    · simp only [hi, if_true]
      obtain ⟨h, hh⟩ : ∃ h, headR ts2 bs a2 e2 (s.L (smallV (zs.getD 0 0)) (decide (ki = 3))) = h := ⟨_, rfl⟩
      rw [hh]
      by_cases he : h.2.2.1 ≠ 0
      · rw [if_pos he, if_pos he]
      · rw [if_neg he, if_neg he, if_pos (.inl hb)]
        have := hbadE (if h.2.2.1 = 0 then h.1 else [])
        rw [if_pos hi] at this
        rw [if_pos this]
    · have hi0 : isL ki = false := by simpa using hi
      simp only [hi0, Bool.false_eq_true, if_false]
      by_cases he : e2 ≠ 0
      · simp only [he, if_true, ne_eq, not_false_eq_true]
      · have h0 : e2 = 0 := by simpa using he
        have := hbadE []
        rw [if_neg hi] at this
        simp only [h0, ne_eq, not_true_eq_false, if_false, hb, true_or, if_true, this]
  · -- nothing is too great: the events are one
    have hb' : bad2 ki zs = false := by simpa using hb
    have hb1 : bad1 ki zs = false := by unfold bad2 at hb'; exact (Bool.or_eq_false_iff.1 hb').1
    have hb0 : bad0 zs = false := by unfold bad1 at hb1; exact (Bool.or_eq_false_iff.1 hb1).1
    have hbb := hb0
    unfold bad0 at hbb
    simp only [Bool.or_eq_false_iff, decide_eq_false_iff_not] at hbb
    have hs0' : smallV (zs.getD 0 0) = zs.getD 0 0 := by unfold smallV; rw [if_neg (by omega)]
    have hs1' : smallV (zs.getD 1 0) = zs.getD 1 0 := by unfold smallV; rw [if_neg (by omega)]
    have hxx : xRef s ki zs = xOf s ki zs := by
      have hmx : max (zs.getD 1 0) 0 = zs.getD 1 0 := by omega
      unfold xRef xOf
      rw [hs0', hs1', hmx]
      simp only [hb0, hb1, Bool.false_eq_true, if_false]
      unfold bad1 at hb1
      rw [hb0, Bool.false_or] at hb1
      unfold bad2 bad1 at hb'
      rw [hb0, Bool.false_or] at hb'
      rcases (by omega : ki = 1 ∨ ki = 2 ∨ ki = 3 ∨ ki = 4 ∨ ki = 5 ∨ ki = 6 ∨ ki = 7) with rfl | rfl | rfl | rfl | rfl | rfl | rfl
      · have hl3 : zs.length = 3 := hl
        match zs, hl3 with
        | [p0, p1, c], _ =>
          simp at hb1
          simp [smallV]
          omega
      · have hl3 : zs.length = 5 := hl
        match zs, hl3 with
        | [p0, p1, c, d, e], _ =>
          simp at hb'
          have := hget 2
          simp at this
          simp [smallV]
          omega
      · have hl3 : zs.length = 3 := hl
        match zs, hl3 with
        | [p0, p1, c], _ =>
          simp at hb1
          simp [smallV]
          omega
      · simp
      · simp
      · simp
      · have hl3 : zs.length = 4 := hl
        match zs, hl3 with
        | [p0, p1, c, d], _ =>
          simp at hb1
          simp [smallV]
          omega
    rw [hxx, hy]
    have hm : ¬ (smallV (zs.getD 1 0) < 0) := by omega
    by_cases hi : isL ki = true
    · simp only [hi, if_true]
      obtain ⟨h, hh⟩ : ∃ h, headR ts2 bs a2 e2 (s.L (smallV (zs.getD 0 0)) (decide (ki = 3))) = h := ⟨_, rfl⟩
      rw [hh]
      by_cases he : h.2.2.1 = 0
      · simp only [he, ne_eq, not_true_eq_false, if_false, if_true, hb', hm, Bool.false_eq_true, false_or]
      · simp only [he, ne_eq, not_false_eq_true, if_true]
    · have hi0 : isL ki = false := by simpa using hi
      simp only [hi0, if_false, hb', hm, Bool.false_eq_true, false_or]
end Go.Proofs.Ytbkcpgaicoagfaa
