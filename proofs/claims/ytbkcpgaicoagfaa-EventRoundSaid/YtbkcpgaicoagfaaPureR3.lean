/- Events: what is taken is put. -/
import Derived.Test.YtbkcpgaicoagfaaPureR2
set_option linter.unusedVariables false
set_option linter.unusedSimpArgs false
namespace Go.Proofs.Ytbkcpgaicoagfaa
open Go.RowKit

theorem takeB_inv {s s' : PB} {b : List Int} {a n : Int} {x : Ev} (hb : Byt b) (h : takeB s b a = (x, n, 0, s')) :
    ∃ ki a1 zs a2, lebTake b a = (ki, a1, 0) ∧ (1 ≤ ki ∧ ki ≤ 7) ∧ numL b (manyE ki) a1 = (zs, a2, 0) ∧ (ki = 2 → zs.getD 3 0 ≤ 1) ∧ takeX s b (smallV (zs.getD 1 0)) (xOf s ki zs) a2 = (x, n, 0, s') := by
  obtain ⟨⟨ki, a1, e1⟩, h1⟩ : ∃ r, lebTake b a = r := ⟨_, rfl⟩
  by_cases he1 : e1 = 0
  · subst he1
    have hx1 := lebTake_exact hb h1
    by_cases hk : 1 ≤ ki ∧ ki ≤ 7
    · have main : ∀ m, m ≤ manyE ki → ∃ zs a2, numL b m a1 = (zs, a2, 0) ∧ (ki = 2 → 4 ≤ m → zs.getD 3 0 ≤ 1) := by
        intro m
        induction m with
        | zero => intro _; exact ⟨[], a1, rfl, fun _ h => by omega⟩
        | succ m ih =>
          intro hm
          obtain ⟨zs, a2, hz, hc⟩ := ih (by omega)
          obtain ⟨⟨z, a3, e⟩, ht⟩ : ∃ r, lebTake b a2 = r := ⟨_, rfl⟩
          by_cases he : e = 0
          · subst he
            have hzl := numL_len b a1 m
            rw [hz] at hzl
            dsimp only at hzl
            refine ⟨zs ++ [z], a3, by rw [numL_snoc hz, ht], fun h2 h4 => ?_⟩
            by_cases h3 : m = 3
            · subst h3
              rw [List.getD_eq_getElem?_getD, List.getElem?_append_right (by omega), hzl]
              simp only [Nat.sub_self, List.getElem?_cons_zero, Option.getD_some]
              rcases Classical.em (1 < z) with hbig | hbig
              · exfalso
                subst h2
                rw [takeB_cred h1 hz ht hbig] at h
                simp at h
              · omega
            · have := hc h2 (by omega)
              rw [List.getD_eq_getElem?_getD, List.getElem?_append_left (by omega), ← List.getD_eq_getElem?_getD]
              exact this
          · exfalso
            rw [takeB_err h1 hk hz (by omega) ht he hc] at h
            simp only [Prod.mk.injEq] at h
            exact he h.2.2.1
      obtain ⟨zs, a2, hz, hc⟩ := main (manyE ki) (Nat.le_refl _)
      have hc2 : ki = 2 → zs.getD 3 0 ≤ 1 := fun h2 => hc h2 (by rw [h2]; decide)
      exact ⟨ki, a1, zs, a2, h1.trans rfl, hk, hz, hc2, by rw [← takeB_full h1 hk hz hc2]; exact h⟩
    · exfalso
      rw [takeB_bad h1 hx1.2.2.2.2.1 hk] at h
      simp at h
  · exfalso
    rw [takeB_err0 h1 he1] at h
    simp only [Prod.mk.injEq] at h
    exact he1 h.2.2.1
theorem takeH_inv {s s' : PB} {b : List Int} {more a n : Int} {x y : Ev} {ts : List ByteArray} (hys : y.hs = []) (h : takeH s b more y a 0 ts = (x, n, 0, s')) :
    0 ≤ more ∧ goodE x = true ∧ x = { y with hs := x.hs } ∧ ∃ ts4, s' = toldB s ts4 x ∧ (isL y.ki = true → takeD ts b a (s.L y.se (decide (y.ki = 3))) = (x.hs, n, 0, ts4)) ∧ (isL y.ki = false → n = a ∧ ts4 = ts) := by
  unfold takeH at h
  dsimp only at h
  obtain ⟨⟨l, m, e, t⟩, hq⟩ : ∃ q, (if isL y.ki = true then headR ts b a 0 (s.L y.se (decide (y.ki = 3))) else ([], a, 0, ts)) = q := ⟨_, rfl⟩
  rw [hq] at h
  dsimp only at h
  by_cases he : e = 0
  · subst he
    rw [if_neg (fun h => h rfl), if_pos rfl] at h
    obtain ⟨yy, hyy⟩ : ∃ z : Ev, (if isL y.ki = true then { y with hs := l } else y) = z := ⟨_, rfl⟩
    rw [hyy] at h
    by_cases hbad : more < 0 ∨ goodE yy = false
    · rw [if_pos hbad] at h; simp at h
    · rw [if_neg hbad] at h
      simp only [Prod.mk.injEq, true_and] at h
      obtain ⟨rfl, rfl, rfl⟩ := h
      have hg : goodE yy = true := by cases hg : goodE yy with | true => rfl | false => exact absurd (.inr hg) hbad
      have hyx : yy = { y with hs := yy.hs } := by
        rw [← hyy]
        split
        · rfl
        · cases y; rfl
      refine ⟨by rcases Classical.em (more < 0) with h | h; exact absurd (.inl h) hbad; omega, hg, hyx, t, rfl, fun hi => ?_, fun hi => ?_⟩
      · rw [if_pos hi] at hq hyy
        unfold headR at hq
        rw [if_pos rfl] at hq
        rw [hq, ← hyy]
      · have hi' : ¬ (isL y.ki = true) := by rw [hi]; simp
        rw [if_neg hi'] at hq
        simp only [Prod.mk.injEq] at hq
        exact ⟨hq.2.1.symm, hq.2.2.2.symm⟩
  · rw [if_pos he] at h
    simp only [Prod.mk.injEq] at h
    exact absurd h.2.2.1 he
def setZ : List Nat → List ByteArray → Ev → Ev
  | f :: l, t :: tl, x => setZ l tl (setT x f t)
  | _, _, x => x
theorem putTs_wordsR {b : List Int} (hb : Byt b) : ∀ (l : List Nat) (x0 y : Ev) (ts ts' : List ByteArray) (a n : Int), Dist ts → 0 ≤ a → a ≤ b.length → wordsR b l x0 a 0 ts = (y, n, 0, ts') →
    ∃ tl, tl.length = l.length ∧ putTs ts tl = (seg b a n, ts') ∧ a ≤ n ∧ n ≤ b.length ∧ Dist ts' ∧ y = setZ l tl x0
  | [], x0, y, ts, ts', a, n, hd, h0, h1, h => by
    simp only [wordsR, Prod.mk.injEq] at h
    obtain ⟨rfl, rfl, -, rfl⟩ := h
    exact ⟨[], rfl, by rw [seg_nil]; rfl, Int.le_refl _, h1, hd, rfl⟩
  | f :: l, x0, y, ts, ts', a, n, hd, h0, h1, h => by
    rw [wordsR] at h
    obtain ⟨⟨t, m, e, ts1⟩, ht⟩ : ∃ r, takeT ts b a = r := ⟨_, rfl⟩
    have htr : textR ts b a 0 = (t, m, e, ts1) := by unfold textR; rw [if_pos rfl, ht]
    rw [htr] at h
    dsimp only at h
    by_cases he : e = 0
    · subst he
      obtain ⟨q1, q2, q3, q4, q5⟩ := putT_takeT hb hd ht
      obtain ⟨tl, r1, r2, r3, r4, r5, r6⟩ := putTs_wordsR hb l _ y ts1 ts' m n q5 (by omega) q4 h
      refine ⟨t :: tl, by simp [r1], ?_, by omega, r4, r5, r6⟩
      rw [putTs, q1]
      dsimp only
      rw [r2]
      dsimp only
      rw [seg_app (by omega) (by omega) (by omega) (by omega)]
    · exfalso
      have hx := wordsR_err b l (setT x0 f t) m e ts1 he
      rw [h] at hx
      simp only [Prod.mk.injEq] at hx
      exact he hx.2.1.symm
theorem setZ_map {ki : Int} (hk : 1 ≤ ki ∧ ki ≤ 7) {tl : List ByteArray} (x0 : Ev) (h : tl.length = (worF ki).length) : (worF ki).map (fldT (setZ (worF ki) tl x0)) = tl := by
  rcases kinds hk with e | e | e | e | e | e | e <;> subst e
  · match tl, h with
    | [t1, t2, t3, t4], _ => simp [worF, setZ, setT, fldT]
  · match tl, h with
    | [t1, t2, t3], _ => simp [worF, setZ, setT, fldT]
  · match tl, h with
    | [t1], _ => simp [worF, setZ, setT, fldT]
  all_goals
    match tl, h with
    | [], _ => rfl
theorem setZ_same : ∀ (l : List Nat) (tl : List ByteArray) (x : Ev), SameN x (setZ l tl x)
  | [], tl, x => by unfold setZ; exact SameN.rf x
  | f :: l, [], x => by unfold setZ; exact SameN.rf x
  | f :: l, t :: tl, x => by rw [setZ]; exact (setT_same x f t).tr (setZ_same l tl _)
theorem smallV_pos {z : Int} (h : 0 ≤ smallV z) : smallV z = z := by
  unfold smallV at h ⊢
  split at h
  · omega
  · rename_i h2; rw [if_neg h2]
theorem goodE_evw {x : Ev} (hg : goodE x = true) (hnn : 0 ≤ x.nn ∧ x.nn < 18446744073709551616) : EvW x := by
  have hG := goodP_of hg
  have hk := goodK_of hg
  have hki := hG.ki
  have hse := hG.se
  have hti := hG.ti
  have hnum := hG.num
  have hcs : (-9223372036854775808 ≤ x.st ∧ x.st ≤ 9223372036854775807) ∧ (-9223372036854775808 ≤ x.co ∧ x.co ≤ 9223372036854775807) := by
    obtain ⟨ki, se, ti, me, ur, hs, bo, st, co, cr, no, nn⟩ := x
    dsimp only at hki hnum ⊢
    unfold goodK at hk
    dsimp only at hk
    rcases kinds hki with h | h | h | h | h | h | h <;> subst h
    · have hc := hnum 8 (by decide)
      simp [fldI] at hc
      simp at hk
      omega
    · have hc := hnum 8 (by decide)
      simp [fldI] at hc
      simp at hk
      omega
    · have hc := hnum 7 (by decide)
      simp [fldI] at hc
      simp at hk
      omega
    · simp at hk; omega
    · simp at hk; omega
    · simp at hk; omega
    · have hc := hnum 8 (by decide)
      have hc2 := hnum 7 (by decide)
      simp [fldI] at hc hc2
      omega
  exact ⟨by omega, by omega, by omega, hcs.1, hcs.2, hnn⟩
theorem vsE_xOf {s : PB} {ki : Int} {zs : List Int} {x : Ev} (hk : 1 ≤ ki ∧ ki ≤ 7) (hl : zs.length = manyE ki) (hz : ∀ z ∈ zs, 0 ≤ z) (hc : ki = 2 → zs.getD 3 0 ≤ 1) (hmore : 0 ≤ smallV (zs.getD 1 0)) (hx : SameN (xOf s ki zs) { x with hs := [] }) (hg : goodE x = true) : vsE s x = zs := by
  have hG := goodP_of hg
  have hse := hG.se
  have hnum := hG.num
  have h1 : x.ki = (xOf s ki zs).ki := hx.ki
  have h2 : x.se = (xOf s ki zs).se := hx.se
  have h3 : x.ti = (xOf s ki zs).ti := hx.ti
  have h4 : x.st = (xOf s ki zs).st := hx.st
  have h5 : x.co = (xOf s ki zs).co := hx.co
  have h6 : x.cr = (xOf s ki zs).cr := hx.cr
  have h7 : x.nn = (xOf s ki zs).nn := hx.nn
  rcases kinds hk with h | h | h | h | h | h | h <;> subst h
  · match zs, hl with
    | [z0, z1, z2], _ =>
      simp [xOf] at h1 h2 h3 h5 hmore
      have hc := hnum 8 (by rw [h1]; decide)
      simp [fldI] at hc
      have e0 := smallV_pos (z := z0) (by omega)
      have e1 := smallV_pos hmore
      have e2 := smallV_pos (z := z2) (by omega)
      simp [vsE, numI, numF, fldI, h1, h2, h3, h5, e0, e1, e2]
      have := hz z1 (by simp)
      omega
  · match zs, hl with
    | [z0, z1, z2, z3, z4], _ =>
      simp [xOf] at h1 h2 h3 h5 h6 h7 hmore hc
      have hcc := hnum 8 (by rw [h1]; decide)
      simp [fldI] at hcc
      have e0 := smallV_pos (z := z0) (by omega)
      have e1 := smallV_pos hmore
      have e2 := smallV_pos (z := z2) (by omega)
      have := hz z1 (by simp)
      have h3' := hz z3 (by simp)
      have e3 : (if x.cr = true then (1 : Int) else 0) = z3 := by
        rw [h6]
        by_cases hh : z3 = 1
        · simp [hh]
        · simp [hh]; omega
      simp [vsE, numI, numF, fldI, h1, h2, h3, h5, h7, e0, e1, e2, e3]
      omega
  · match zs, hl with
    | [z0, z1, z2], _ =>
      simp [xOf] at h1 h2 h3 h4 hmore
      have hc := hnum 7 (by rw [h1]; decide)
      simp [fldI] at hc
      have e0 := smallV_pos (z := z0) (by omega)
      have e1 := smallV_pos hmore
      have e2 := smallV_pos (z := z2) (by omega)
      simp [vsE, numI, numF, fldI, h1, h2, h3, h4, e0, e1, e2]
      have := hz z1 (by simp)
      omega
  · match zs, hl with
    | [z0, z1], _ =>
      simp [xOf] at h1 h2 h3 hmore
      have e0 := smallV_pos (z := z0) (by omega)
      have e1 := smallV_pos hmore
      simp [vsE, numI, numF, h1, h2, h3, e0, e1]
      have := hz z1 (by simp)
      omega
  · match zs, hl with
    | [z0, z1, z2], _ =>
      simp [xOf] at h1 h2 h3 h7 hmore
      have e0 := smallV_pos (z := z0) (by omega)
      have e1 := smallV_pos hmore
      simp [vsE, numI, numF, h1, h2, h3, h7, e0, e1]
      have := hz z1 (by simp)
      omega
  · match zs, hl with
    | [z0, z1, z2], _ =>
      simp [xOf] at h1 h2 h3 h7 hmore
      have e0 := smallV_pos (z := z0) (by omega)
      have e1 := smallV_pos hmore
      simp [vsE, numI, numF, h1, h2, h3, h7, e0, e1]
      have := hz z1 (by simp)
      omega
  · match zs, hl with
    | [z0, z1, z2, z3], _ =>
      simp [xOf] at h1 h2 h3 h4 h5 hmore
      have hc := hnum 8 (by rw [h1]; decide)
      have hc2 := hnum 7 (by rw [h1]; decide)
      simp [fldI] at hc hc2
      have e0 := smallV_pos (z := z0) (by omega)
      have e1 := smallV_pos hmore
      have e2 := smallV_pos (z := z2) (by omega)
      have e3 := smallV_pos (z := z3) (by omega)
      simp [vsE, numI, numF, fldI, h1, h2, h3, h4, h5, e0, e1, e2, e3]
      have := hz z1 (by simp)
      omega
theorem xOf_nn (s : PB) {ki : Int} {zs : List Int} (hz : ∀ z ∈ zs, 0 ≤ z ∧ z < 18446744073709551616) : 0 ≤ (xOf s ki zs).nn ∧ (xOf s ki zs).nn < 18446744073709551616 := by
  have hg : ∀ i, 0 ≤ zs.getD i 0 ∧ zs.getD i 0 < 18446744073709551616 := fun i => by
    rw [List.getD_eq_getElem?_getD]
    cases hi : zs[i]? with
    | none => simp
    | some z => simpa using hz z (List.mem_of_getElem? hi)
  have h2 := hg 2
  have h4 := hg 4
  unfold xOf
  dsimp only
  (repeat' split) <;> first | exact h2 | exact h4 | exact ⟨Int.le_refl _, (show (0 : Int) < 18446744073709551616 by decide)⟩
theorem numL_bd3 {bs : List Int} (hb : Byt bs) : ∀ (m : Nat) (a : Int), ∀ z ∈ (numL bs m a).1, 0 ≤ z ∧ z < 18446744073709551616
  | 0, a, z, h => by cases h
  | m + 1, a, z, h => by
    rw [numL] at h
    rcases List.mem_append.1 h with h | h
    · exact numL_bd3 hb m a z h
    · rw [List.mem_singleton] at h
      subst h
      unfold numR
      split
      · have := lebTake_bd hb (numL bs m a).2.1
        exact ⟨this.1, this.2.1⟩
      · exact ⟨Int.le_refl _, by omega⟩
theorem putB_takeB {s s' : PB} {b : List Int} {a n : Int} {x : Ev} (hb : Byt b) (hok : PBOk s) (h : takeB s b a = (x, n, 0, s')) :
    goodE x = true ∧ EvW x ∧ s.ti ≤ x.ti ∧ putB s x = (seg b a n, s') ∧ 0 ≤ a ∧ a < n ∧ n ≤ b.length ∧ PBOk s' := by
  obtain ⟨ki, a1, zs, a2, h1, hk, hz, hc, hX⟩ := takeB_inv hb h
  obtain ⟨x1, x2, x3, x4, x5, x6⟩ := lebTake_exact hb h1
  obtain ⟨n1, n2, n3⟩ := lebs_numL hb (by omega) x3 _ _ _ hz
  have hzl := numL_len b a1 (manyE ki)
  have hzb := numL_bd3 hb (manyE ki) a1
  rw [hz] at hzl hzb
  dsimp only at hzl hzb
  have hkx : (xOf s ki zs).ki = ki := by unfold xOf; dsimp only; (repeat' split) <;> rfl
  have hhx : (xOf s ki zs).hs = [] := by unfold xOf; dsimp only; (repeat' split) <;> rfl
  have htx : (xOf s ki zs).ti = s.ti + max (smallV (zs.getD 1 0)) 0 := by unfold xOf; dsimp only; (repeat' split) <;> rfl
  unfold takeX at hX
  dsimp only at hX
  rw [hkx] at hX
  obtain ⟨⟨y, a3, e3, ts3⟩, hw⟩ : ∃ q, wordsR b (worF ki) (xOf s ki zs) a2 0 s.ts = q := ⟨_, rfl⟩
  rw [hw] at hX
  dsimp only at hX
  by_cases he : e3 = 0
  · subst he
    obtain ⟨tl, t1, t2, t3, t4, t5, t6⟩ := putTs_wordsR hb (worF ki) _ y s.ts ts3 a2 a3 hok.dist (by omega) n3 hw
    have hsm : SameN (xOf s ki zs) y := by rw [t6]; exact setZ_same _ _ _
    have hys : y.hs = [] := hsm.hs.trans hhx
    have hyk : y.ki = ki := hsm.ki.trans hkx
    obtain ⟨g1, g2, g3, ts4, g4, g5, g6⟩ := takeH_inv hys hX
    have hxk : x.ki = ki := by rw [g3]; exact hyk
    have hx0 : ({ x with hs := [] } : Ev) = y := by
      rw [g3]
      cases y
      simp only at hys
      simp [hys]
    have hsx : SameN (xOf s ki zs) { x with hs := [] } := by rw [hx0]; exact hsm
    have hvs := vsE_xOf hk hzl (fun z hz => (hzb z hz).1) hc g1 hsx g2
    have hnn : x.nn = (xOf s ki zs).nn := hsx.nn
    have hW : EvW x := goodE_evw g2 (by rw [hnn]; exact xOf_nn s hzb)
    have htt : x.ti = s.ti + max (smallV (zs.getD 1 0)) 0 := (show x.ti = (xOf s ki zs).ti from hsx.ti).trans htx
    have hwe : worE x = tl := by
      have h2 := setZ_map hk (xOf s ki zs) t1
      rw [← t6] at h2
      unfold worE
      rw [hxk, ← h2]
      refine List.map_congr_left (fun f _ => ?_)
      rw [g3]
      rfl
    have hse : x.se = y.se := by rw [g3]
    have hdl : dltB s x ts3 = (seg b a3 n, ts4) ∧ a3 ≤ n ∧ n ≤ b.length ∧ Dist ts4 := by
      unfold dltB
      by_cases hi : isL ki = true
      · have hD := g5 (by rw [hyk]; exact hi)
        obtain ⟨d1, d2, d3, d4, d5, d6⟩ := putD_takeD hb t5 hD
        rw [hxk, if_pos hi, hse]
        rw [hyk] at d1
        exact ⟨d1, by omega, d4, d5⟩
      · have hi' : isL ki = false := by simpa using hi
        obtain ⟨rfl, rfl⟩ := g6 (by rw [hyk]; exact hi')
        rw [hxk, if_neg hi, seg_nil]
        exact ⟨rfl, Int.le_refl _, t4, t5⟩
    obtain ⟨hd1, hd2, hd3, hd4⟩ := hdl
    refine ⟨g2, hW, by omega, ?_, x1, by omega, hd3, by rw [g4]; exact hok.told hd4 g2⟩
    have hp2 : (putB s x).2 = toldB s (dltB s x (putTs s.ts (worE x)).2).2 x := rfl
    have hp1 := putB_parts s x
    rw [hwe, t2] at hp1 hp2
    dsimp only at hp1 hp2
    rw [hd1] at hp1 hp2
    dsimp only at hp1 hp2
    rw [hvs, n1, hxk, x4] at hp1
    have e1 : (b.take a1.toNat).drop a.toNat = seg b a a1 := rfl
    rw [e1, seg_app (by omega) (by omega) (by omega) (by omega), seg_app (by omega) (by omega) (by omega) (by omega), seg_app (by omega) (by omega) (by omega) (by omega)] at hp1
    rw [← hp1, g4, ← hp2]
  · exfalso
    rw [takeH_err he] at hX
    simp only [Prod.mk.injEq] at hX
    exact he hX.2.2.1
end Go.Proofs.Ytbkcpgaicoagfaa
