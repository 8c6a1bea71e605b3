/- Events: what is put is taken; what is taken is put. -/
import Derived.Test.YtbkcpgaicoagfaaPureR1
set_option linter.unusedVariables false
set_option linter.unusedSimpArgs false
namespace Go.Proofs.Ytbkcpgaicoagfaa
open Go.RowKit

theorem lebs_nil : lebs [] = [] := rfl
theorem lebs_cons (v : Int) (l : List Int) : lebs (v :: l) = leb v ++ lebs l := by simp [lebs]
theorem lebs_app (l m : List Int) : lebs (l ++ m) = lebs l ++ lebs m := by simp [lebs]
theorem lebs_byt : ∀ (l : List Int), (∀ v ∈ l, 0 ≤ v) → Byt (lebs l)
  | [], _ => fun x hx => by cases hx
  | v :: l, h => by
    rw [lebs_cons]
    intro x hx
    rcases List.mem_append.1 hx with hx | hx
    · exact leb_byte (h v (List.mem_cons_self ..)) x hx
    · exact lebs_byt l (fun y hy => h y (List.mem_cons_of_mem _ hy)) x hx
theorem numL_put {vs ys r : List Int} (hv : ∀ v ∈ vs, 0 ≤ v ∧ v < 18446744073709551616) (hr : Byt r) : ∀ m, m ≤ vs.length → numL ((ys ++ lebs vs) ++ r) m (ys.length : Int) = (vs.take m, (ys.length : Int) + (lebs (vs.take m)).length, 0)
  | 0, _ => by simp [numL, lebs_nil]
  | m + 1, hm => by
    have ih := numL_put (ys := ys) (r := r) hv hr m (by omega)
    obtain ⟨v, hvm⟩ : ∃ v, vs[m]? = some v := ⟨_, List.getElem?_eq_getElem (by omega)⟩
    have hvb := hv v (List.mem_of_getElem? hvm)
    have ht : vs.take (m + 1) = vs.take m ++ [v] := by rw [List.take_add_one, hvm]; rfl
    have hd : vs = vs.take m ++ (v :: vs.drop (m + 1)) := by
      have h1 := (List.getElem?_eq_some_iff.1 hvm)
      conv => lhs; rw [← List.take_append_drop m vs]
      rw [List.drop_eq_getElem_cons (by omega), h1.2]
    have hls : lebs vs = lebs (vs.take m) ++ (leb v ++ lebs (vs.drop (m + 1))) := by
      conv => lhs; rw [hd]
      rw [lebs_app, lebs_cons]
    have hbr : Byt (lebs (vs.drop (m + 1)) ++ r) := fun x hx => (List.mem_append.1 hx).elim (lebs_byt _ (fun y hy => (hv y (List.mem_of_mem_drop hy)).1) x) (hr x)
    have t := lebTake_round (ys := ys ++ lebs (vs.take m)) (v := v) (r := lebs (vs.drop (m + 1)) ++ r) hvb.1 hvb.2 hbr
    have e : ((ys ++ lebs (vs.take m)) ++ leb v) ++ (lebs (vs.drop (m + 1)) ++ r) = (ys ++ lebs vs) ++ r := by rw [hls]; simp only [List.append_assoc]
    rw [e, List.length_append, Int.natCast_add] at t
    rw [numL_snoc ih, t, ht, lebs_app, lebs_cons, lebs_nil, List.append_nil, List.length_append, Int.natCast_add, Int.add_assoc]
theorem lebs_numL {b : List Int} (hb : Byt b) {a : Int} (h0 : 0 ≤ a) (h1 : a ≤ b.length) : ∀ (m : Nat) (zs : List Int) (n : Int), numL b m a = (zs, n, 0) → lebs zs = seg b a n ∧ a ≤ n ∧ n ≤ b.length
  | 0, zs, n, h => by
    simp only [numL, Prod.mk.injEq] at h
    obtain ⟨rfl, rfl, -⟩ := h
    exact ⟨by rw [seg_nil]; rfl, Int.le_refl _, h1⟩
  | m + 1, zs, n, h => by
    obtain ⟨zs', a', z, rfl, g, t⟩ := numL_step h rfl
    obtain ⟨i1, i2, i3⟩ := lebs_numL hb h0 h1 m zs' a' g
    obtain ⟨t1, t2, t3, t4, t5, t6⟩ := lebTake_exact hb t
    refine ⟨?_, by omega, by omega⟩
    rw [lebs_app, lebs_cons, lebs_nil, List.append_nil, i1, t4]
    show seg b a a' ++ seg b a' n = seg b a n
    exact seg_app h0 i2 (by omega) (by omega)
/-- The numbers behind an event's kind. -/
def vsE (s : PB) (x : Ev) : List Int := [x.se, x.ti - s.ti] ++ (numI x ++ (if x.ki = 2 then [if x.cr then 1 else 0, x.nn] else if x.ki = 5 ∨ x.ki = 6 then [x.nn] else []))
theorem kinds {ki : Int} (h : 1 ≤ ki ∧ ki ≤ 7) : ki = 1 ∨ ki = 2 ∨ ki = 3 ∨ ki = 4 ∨ ki = 5 ∨ ki = 6 ∨ ki = 7 := by omega
theorem lebs_vs (s : PB) (x : Ev) : lebs (vsE s x) = leb x.se ++ (leb (x.ti - s.ti) ++ (lebs (numI x) ++ midE x)) := by
  unfold vsE midE
  rw [lebs_app, lebs_app, lebs_cons, lebs_cons, lebs_nil]
  by_cases h2 : x.ki = 2
  · simp only [h2, if_true, lebs_cons, lebs_nil, List.append_nil, List.append_assoc]
  · by_cases h5 : x.ki = 5 ∨ x.ki = 6
    · simp only [h2, h5, if_true, if_false, lebs_cons, lebs_nil, List.append_nil, List.append_assoc]
    · simp only [h2, h5, if_false, lebs_nil, List.append_nil, List.append_assoc]
theorem vs_len (s : PB) {x : Ev} (hk : 1 ≤ x.ki ∧ x.ki ≤ 7) : (vsE s x).length = manyE x.ki := by
  unfold vsE numI manyE
  rcases kinds hk with h | h | h | h | h | h | h <;> rw [h] <;> simp [numF]
/-- The book's state may be. -/
structure PBOk (s : PB) : Prop where
  dist : Dist s.ts
  ls : ∀ se an, (s.L se an).length ≤ 25
  t0 : 0 ≤ s.ti
  t1 : s.ti ≤ 1099511627776
theorem PBOk.nil : PBOk ⟨[], 0, fun _ _ => []⟩ := ⟨Dist.nil, fun _ _ => by simp, by simp, by simp⟩
theorem PBOk.told {s : PB} (h : PBOk s) {ts : List ByteArray} (hd : Dist ts) {x : Ev} (hg : goodE x = true) : PBOk (toldB s ts x) := by
  have hG := goodP_of hg
  refine ⟨hd, fun se an => ?_, hG.ti.1, hG.ti.2⟩
  unfold toldB
  dsimp only
  split
  · unfold setL
    split
    · exact hG.hs
    · exact h.ls se an
  · exact h.ls se an
theorem putTs_bytes : ∀ (l : List ByteArray) (ts : List ByteArray), Byt (putTs ts l).1
  | [], ts => fun x hx => by cases hx
  | t :: l, ts => by
    intro x hx
    rw [putTs] at hx
    rcases List.mem_append.1 hx with hx | hx
    · exact putT_bytes _ _ x hx
    · exact putTs_bytes l _ x hx
theorem Dist.puts : ∀ (l : List ByteArray) {ts : List ByteArray}, Dist ts → Dist (putTs ts l).2
  | [], ts, h => h
  | t :: l, ts, h => by
    rw [putTs]
    exact Dist.puts l (h.put t)
theorem Dist.putFs : ∀ (l : List Hdr) {ts : List ByteArray}, Dist ts → Dist (putFs ts l).2
  | [], ts, h => h
  | t :: l, ts, h => by
    rw [Go.Proofs.Ytbkcpgaicoagfaa.putFs]
    exact Dist.putFs l ((h.put _).put _)
/-- Texts into their fields. -/
def setTs (X : Ev) : List Nat → Ev → Ev
  | [], x => x
  | f :: l, x => setTs X l (setT x f (fldT X f))
theorem wordsR_put (X : Ev) : ∀ (l : List Nat) (x0 : Ev) (ts : List ByteArray) (ys r : List Int), (∀ f ∈ l, (fldT X f).size ≤ 2048) → ts.length + l.length ≤ 1000000 → Byt r →
    wordsR ((ys ++ (putTs ts (l.map (fldT X))).1) ++ r) l x0 (ys.length : Int) 0 ts = (setTs X l x0, (ys.length : Int) + (putTs ts (l.map (fldT X))).1.length, 0, (putTs ts (l.map (fldT X))).2)
  | [], x0, ts, ys, r, _, _, _ => by simp [wordsR, putTs, setTs]
  | f :: l, x0, ts, ys, r, hz, hl, hr => by
    rw [List.length_cons] at hl
    have hs := hz f (List.mem_cons_self ..)
    obtain ⟨p1, hp1⟩ : ∃ p, putT ts (fldT X f) = p := ⟨_, rfl⟩
    obtain ⟨p2, hp2⟩ : ∃ p, putTs p1.2 (l.map (fldT X)) = p := ⟨_, rfl⟩
    have hpt : putTs ts ((f :: l).map (fldT X)) = (p1.1 ++ p2.1, p2.2) := by rw [List.map_cons, putTs, hp1, hp2]
    have l1 := putT_len2 ts (fldT X f) (by omega) (by omega)
    rw [hp1] at l1
    have b2 : Byt p2.1 := by rw [← hp2]; exact putTs_bytes _ _
    have br : Byt (p2.1 ++ r) := fun x hx => (List.mem_append.1 hx).elim (b2 x) (hr x)
    have t1 := takeT_putT (ts := ts) (s := fldT X f) (ys := ys) (r := p2.1 ++ r) hs (by omega) br
    have t2 := wordsR_put X l (setT x0 f (fldT X f)) p1.2 (ys ++ p1.1) r (fun g hg => hz g (List.mem_cons_of_mem _ hg)) (by omega) hr
    rw [hp1] at t1
    rw [hp2] at t2
    have e : (ys ++ (putTs ts ((f :: l).map (fldT X))).1) ++ r = (ys ++ p1.1) ++ (p2.1 ++ r) := by rw [hpt]; simp only [List.append_assoc]
    have e2 : ((ys ++ p1.1) ++ p2.1) ++ r = (ys ++ p1.1) ++ (p2.1 ++ r) := by simp only [List.append_assoc]
    rw [e2, List.length_append, Int.natCast_add] at t2
    rw [e, wordsR]
    have htr : textR ts ((ys ++ p1.1) ++ (p2.1 ++ r)) (ys.length : Int) 0 = (fldT X f, (ys.length : Int) + p1.1.length, 0, p1.2) := by unfold textR; rw [if_pos rfl, t1]
    rw [htr]
    dsimp only
    rw [t2, hpt, setTs]
    simp only [List.length_append, Int.natCast_add, Prod.mk.injEq, true_and, and_true]
    omega
theorem sizes_of {x : Ev} (hG : GoodP x) (f : Nat) : (fldT x f).size ≤ 2048 := by
  have a1 := hG.me
  have a2 := hG.ur
  have a3 := hG.no
  have a4 := hG.bo
  unfold fldT
  (repeat' split) <;> omega
theorem goodK_of {x : Ev} (h : goodE x = true) : goodK x = true := by unfold goodE at h; exact (Bool.and_eq_true_iff.1 h).2
/-- The event by its numbers alone. -/
def numE (x : Ev) : Ev := { x with me := noT, ur := noT, hs := [], bo := noT, no := noT }
theorem xOf_vs {s : PB} {x : Ev} (hok : PBOk s) (hg : goodE x = true) (hlate : s.ti ≤ x.ti) : xOf s x.ki (vsE s x) = numE x := by
  have hG := goodP_of hg
  have hk := goodK_of hg
  have hki := hG.ki
  have hse := hG.se
  have hti := hG.ti
  have ht0 := hok.t0
  have s1 : smallV x.se = x.se := by unfold smallV; rw [if_neg (by omega)]
  have s2 : smallV (x.ti - s.ti) = x.ti - s.ti := by unfold smallV; rw [if_neg (by omega)]
  have m1 : s.ti + max (x.ti - s.ti) 0 = x.ti := by omega
  have hsv : ∀ v : Int, 0 ≤ v → v ≤ 1000 → smallV v = v := fun v h0 h1 => by unfold smallV; rw [if_neg (by omega)]
  have hnum := hG.num
  obtain ⟨ki, se, ti, me, ur, hs, bo, st, co, cr, no, nn⟩ := x
  dsimp only at hki hse hti s1 s2 m1 hnum ⊢
  unfold goodK at hk
  dsimp only at hk
  rcases kinds hki with h | h | h | h | h | h | h <;> subst h
  · have hc := hnum 8 (by decide)
    simp [fldI] at hc
    simp at hk
    simp [xOf, vsE, numI, numF, fldI, numE, s1, s2, m1, hsv co hc.1 hc.2, hk]
  · have hc := hnum 8 (by decide)
    simp [fldI] at hc
    simp at hk
    cases cr <;> simp [xOf, vsE, numI, numF, fldI, numE, s1, s2, m1, hsv co hc.1 hc.2, hk]
  · have hc := hnum 7 (by decide)
    simp [fldI] at hc
    simp at hk
    simp [xOf, vsE, numI, numF, fldI, numE, s1, s2, m1, hsv st hc.1 hc.2, hk]
  · simp at hk
    simp [xOf, vsE, numI, numF, fldI, numE, s1, s2, m1, hk]
  · simp at hk
    simp [xOf, vsE, numI, numF, fldI, numE, s1, s2, m1, hk, hsv 0 (by omega) (by omega)]
  · simp at hk
    simp [xOf, vsE, numI, numF, fldI, numE, s1, s2, m1, hk]
  · have hc := hnum 8 (by decide)
    have hc2 := hnum 7 (by decide)
    simp [fldI] at hc hc2
    simp at hk
    simp [xOf, vsE, numI, numF, fldI, numE, s1, s2, m1, hsv co hc.1 hc.2, hsv st hc2.1 hc2.2, hk]
theorem setTs_num {x : Ev} (hg : goodE x = true) : setTs x (worF x.ki) (numE x) = { x with hs := [] } := by
  have hki := (goodP_of hg).ki
  have hk := goodK_of hg
  obtain ⟨ki, se, ti, me, ur, hs, bo, st, co, cr, no, nn⟩ := x
  dsimp only at hki ⊢
  unfold goodK at hk
  dsimp only at hk
  rcases kinds hki with h | h | h | h | h | h | h <;> subst h <;> simp at hk <;> simp [worF, setTs, setT, fldT, numE, hk]
theorem noL_hs {x : Ev} (hg : goodE x = true) (hL : isL x.ki = false) : x.hs = [] := by
  have hki := (goodP_of hg).ki
  have hk := goodK_of hg
  obtain ⟨ki, se, ti, me, ur, hs, bo, st, co, cr, no, nn⟩ := x
  dsimp only at hki hL ⊢
  unfold goodK at hk
  dsimp only at hk
  rcases kinds hki with h | h | h | h | h | h | h <;> subst h
  · cases hL
  · cases hL
  · cases hL
  all_goals
    simp at hk
    simp [hk]
theorem leb_nat (n : Nat) : Byt (leb (n : Int)) := leb_byte (by omega)
theorem byt_app {a b : List Int} (ha : Byt a) (hb : Byt b) : Byt (a ++ b) := fun x hx => (List.mem_append.1 hx).elim (ha x) (hb x)
theorem putD_bytes (ts : List ByteArray) (was list : List Hdr) : Byt (putD ts was list).1 :=
  byt_app (leb_nat _) (byt_app (leb_nat _) (byt_app (leb_nat _) (putFs_bytes _ _)))
theorem putD_dist {ts : List ByteArray} (was list : List Hdr) (h : Dist ts) : Dist (putD ts was list).2 := by
  have := Dist.putFs (freshD was list) h
  unfold putD
  exact this
theorem dltB_bytes (s : PB) (x : Ev) (ts : List ByteArray) : Byt (dltB s x ts).1 := by
  unfold dltB
  split
  · exact putD_bytes _ _ _
  · intro y hy; cases hy
/-- Put's bytes in stretches. -/
theorem putB_parts (s : PB) (x : Ev) : (putB s x).1 = leb x.ki ++ (lebs (vsE s x) ++ ((putTs s.ts (worE x)).1 ++ (dltB s x (putTs s.ts (worE x)).2).1)) := by
  unfold putB headB
  rw [lebs_vs]
  simp only [List.append_assoc]
theorem vs_bd {s : PB} {x : Ev} (hok : PBOk s) (hg : goodE x = true) (hW : EvW x) (hlate : s.ti ≤ x.ti) : ∀ v ∈ vsE s x, 0 ≤ v ∧ v < 18446744073709551616 := by
  have hG := goodP_of hg
  have hse := hG.se
  have hti := hG.ti
  have ht0 := hok.t0
  have hnn := hW.nn
  intro v hv
  unfold vsE at hv
  rcases List.mem_append.1 hv with hv | hv
  · simp at hv
    rcases hv with rfl | rfl <;> omega
  · rcases List.mem_append.1 hv with hv | hv
    · unfold numI at hv
      obtain ⟨f, hf, rfl⟩ := List.mem_map.1 hv
      have := hG.num f hf
      omega
    · split at hv
      · simp at hv
        rcases hv with rfl | rfl
        · split <;> omega
        · omega
      · split at hv
        · simp at hv; subst hv; omega
        · cases hv
set_option maxHeartbeats 1600000 in
theorem takeB_putB {s : PB} {x : Ev} {ys r : List Int} (hok : PBOk s) (hts : s.ts.length ≤ 900000) (hg : goodE x = true) (hW : EvW x) (hlate : s.ti ≤ x.ti) (hr : Byt r) :
    takeB s ((ys ++ (putB s x).1) ++ r) (ys.length : Int) = (x, (ys.length : Int) + (putB s x).1.length, 0, (putB s x).2) ∧ PBOk (putB s x).2 := by
  have hG := goodP_of hg
  have hki := hG.ki
  have hvb := vs_bd hok hg hW hlate
  have hwl : (worF x.ki).length ≤ 4 := by unfold worF; (repeat' split) <;> simp
  obtain ⟨p1, hp1⟩ : ∃ p, putTs s.ts (worE x) = p := ⟨_, rfl⟩
  obtain ⟨p2, hp2⟩ : ∃ p, dltB s x p1.2 = p := ⟨_, rfl⟩
  have hwm : worE x = (worF x.ki).map (fldT x) := rfl
  have hpb : (putB s x).1 = leb x.ki ++ (lebs (vsE s x) ++ (p1.1 ++ p2.1)) := by rw [putB_parts, hp1, hp2]
  have hps : (putB s x).2 = toldB s p2.2 x := by
    show toldB s (dltB s x (putTs s.ts (worE x)).2).2 x = _
    rw [hp1, hp2]
  have b1 : Byt p1.1 := by rw [← hp1]; exact putTs_bytes _ _
  have b2 : Byt p2.1 := by rw [← hp2]; exact dltB_bytes _ _ _
  have br2 : Byt (p2.1 ++ r) := fun y hy => (List.mem_append.1 hy).elim (b2 y) (hr y)
  have br1 : Byt (p1.1 ++ (p2.1 ++ r)) := fun y hy => (List.mem_append.1 hy).elim (b1 y) (br2 y)
  have bv : Byt (lebs (vsE s x)) := lebs_byt _ (fun v hv => (hvb v hv).1)
  have br0 : Byt (lebs (vsE s x) ++ (p1.1 ++ (p2.1 ++ r))) := fun y hy => (List.mem_append.1 hy).elim (bv y) (br1 y)
  have t0 := lebTake_round (ys := ys) (v := x.ki) (r := lebs (vsE s x) ++ (p1.1 ++ (p2.1 ++ r))) (by omega) (by omega) br0
  have t1 := numL_put (vs := vsE s x) (ys := ys ++ leb x.ki) (r := p1.1 ++ (p2.1 ++ r)) hvb br1 _ (Nat.le_refl _)
  have t2 := wordsR_put x (worF x.ki) (numE x) s.ts ((ys ++ leb x.ki) ++ lebs (vsE s x)) (p2.1 ++ r) (fun f _ => sizes_of hG f) (by omega) br2
  rw [← hwm, hp1, setTs_num hg] at t2
  rw [List.take_length] at t1
  obtain ⟨lk, hlk⟩ : ∃ l, leb x.ki = l := ⟨_, rfl⟩
  obtain ⟨lv, hlv⟩ : ∃ l, lebs (vsE s x) = l := ⟨_, rfl⟩
  rw [hlk, hlv] at hpb t0 t1 t2
  have e0 : (ys ++ (putB s x).1) ++ r = (ys ++ lk) ++ (lv ++ (p1.1 ++ (p2.1 ++ r))) := by rw [hpb]; simp only [List.append_assoc]
  have e1 : ((ys ++ lk) ++ lv) ++ (p1.1 ++ (p2.1 ++ r)) = (ys ++ lk) ++ (lv ++ (p1.1 ++ (p2.1 ++ r))) := by simp only [List.append_assoc]
  have e2 : (((ys ++ lk) ++ lv) ++ p1.1) ++ (p2.1 ++ r) = (ys ++ lk) ++ (lv ++ (p1.1 ++ (p2.1 ++ r))) := by simp only [List.append_assoc]
  have e3 : ((((ys ++ lk) ++ lv) ++ p1.1) ++ p2.1) ++ r = (ys ++ lk) ++ (lv ++ (p1.1 ++ (p2.1 ++ r))) := by simp only [List.append_assoc]
  have c1 : ((ys ++ lk).length : Int) = (ys.length : Int) + lk.length := by rw [List.length_append, Int.natCast_add]
  have c2 : (((ys ++ lk) ++ lv).length : Int) = (ys.length : Int) + lk.length + lv.length := by rw [List.length_append, List.length_append, Int.natCast_add, Int.natCast_add]
  have c3 : ((((ys ++ lk) ++ lv) ++ p1.1).length : Int) = (ys.length : Int) + lk.length + lv.length + p1.1.length := by rw [List.length_append, List.length_append, List.length_append, Int.natCast_add, Int.natCast_add, Int.natCast_add]
  rw [e1, c1] at t1
  rw [e2, c2] at t2
  have hdl : isL x.ki = true → takeD p1.2 ((ys ++ lk) ++ (lv ++ (p1.1 ++ (p2.1 ++ r)))) ((ys.length : Int) + lk.length + lv.length + p1.1.length) (s.L x.se (decide (x.ki = 3))) = (x.hs, (ys.length : Int) + lk.length + lv.length + p1.1.length + p2.1.length, 0, p2.2) := fun hi => by
    have hpd : putD p1.2 (s.L x.se (decide (x.ki = 3))) x.hs = p2 := by rw [← hp2]; unfold dltB; rw [if_pos hi]
    have hpl := putTs_len (worE x) s.ts (fun t ht => by rw [hwm] at ht; obtain ⟨f, hf, rfl⟩ := List.mem_map.1 ht; have := sizes_of hG f; omega) (by rw [hwm, List.length_map]; omega)
    rw [hp1, hwm, List.length_map] at hpl
    have t3 := takeD_putD (ts := p1.2) (was := s.L x.se (decide (x.ki = 3))) (list := x.hs) (ys := ((ys ++ lk) ++ lv) ++ p1.1) (r := r) (fun h hh => by have := hG.hd h hh; omega) hG.hs (by have := hok.ls x.se (decide (x.ki = 3)); omega) (by omega) hr
    rw [hpd, e3, c3] at t3
    exact t3
  have hz2 : x.ki = 2 → (vsE s x).getD 3 0 ≤ 1 := fun h2 => by
    unfold vsE numI
    rw [h2]
    simp [numF]
    split <;> omega
  rw [e0]
  obtain ⟨B, hB⟩ : ∃ B, (ys ++ lk) ++ (lv ++ (p1.1 ++ (p2.1 ++ r))) = B := ⟨_, rfl⟩
  rw [hB] at t0 t1 t2 hdl ⊢
  have hfull := takeB_full (s := s) t0 hki (by rw [← vs_len s hki]; exact t1) hz2
  have hmore : smallV ((vsE s x).getD 1 0) = x.ti - s.ti := by
    have : (vsE s x).getD 1 0 = x.ti - s.ti := rfl
    rw [this]
    have := hG.ti
    have := hok.t0
    unfold smallV
    rw [if_neg (by omega)]
  rw [hmore, xOf_vs hok hg hlate] at hfull
  have hd2 : Dist p2.2 := by
    have h1 : Dist p1.2 := by rw [← hp1]; exact hok.dist.puts _
    rw [← hp2]
    unfold dltB
    split
    · exact putD_dist _ _ h1
    · exact h1
  refine ⟨?_, by rw [hps]; exact hok.told hd2 hg⟩
  rw [hfull]
  unfold takeX
  have hnk : (numE x).ki = x.ki := rfl
  rw [hnk, t2]
  dsimp only
  unfold takeH
  dsimp only
  have hxx : ({ x with hs := x.hs } : Ev) = x := rfl
  have hlen : ((putB s x).1.length : Int) = (lk.length : Int) + lv.length + p1.1.length + p2.1.length := by
    rw [hpb]
    simp only [List.length_append, Int.natCast_add]
    omega
  have hnm : ¬ (x.ti - s.ti < 0) := by omega
  by_cases hi : isL x.ki = true
  · have hD := hdl hi
    have hhr : headR p1.2 B ((ys.length : Int) + lk.length + lv.length + p1.1.length) 0 (s.L x.se (decide (x.ki = 3))) = (x.hs, (ys.length : Int) + lk.length + lv.length + p1.1.length + p2.1.length, 0, p2.2) := by unfold headR; rw [if_pos rfl, hD]
    simp only [hi, if_true, hhr, ne_eq, not_true_eq_false, if_false, hg, hnm, Bool.true_eq_false, or_self, hps, hlen, Prod.mk.injEq, true_and, and_true]
    omega
  · have hi' : isL x.ki = false := by simpa using hi
    have hh := noL_hs hg hi'
    have hp22 : p2 = ([], p1.2) := by rw [← hp2]; unfold dltB; rw [if_neg hi]
    have hxe : ({ x with hs := [] } : Ev) = x := by
      cases x
      simp only at hh
      simp [hh]
    simp only [hi', hxe, Bool.false_eq_true, if_false, ne_eq, not_true_eq_false, hg, hnm, Bool.true_eq_false, or_self, hps, hlen, hp22, List.length_nil, Prod.mk.injEq, true_and, and_true]
    omega
end Go.Proofs.Ytbkcpgaicoagfaa
