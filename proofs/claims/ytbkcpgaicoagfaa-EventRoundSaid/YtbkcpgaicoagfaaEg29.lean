/- Book.Take: its ends. -/
import Derived.Test.YtbkcpgaicoagfaaEg27
import Derived.Test.YtbkcpgaicoagfaaEg25
import Derived.Test.YtbkcpgaicoagfaaEg28
set_option linter.unusedVariables false
set_option linter.unusedSimpArgs false
namespace Go.Proofs.Ytbkcpgaicoagfaa
open Go.RowKit

theorem take_ret {tmps : Array Value} {W : World} {xb : Nat} {cs : Array Value} {v7 v8 : Value} (h6 : tmps.getD 6 undef = .pointer (some ⟨xb, 0, none⟩)) (h7 : tmps.getD 7 undef = v7) (h8 : tmps.getD 8 undef = v8) (hK : W.heap[xb]? = some (.cells cs 34)) (hs : cs.size = 12) :
    (results Try.f17 tmps).run Try.prog W = .ok (.tuple #[.agg cs, v7, v8]) W := by
  have hl := run_loadVar_row (P := Try.prog) W xb 34 34 cs (0, 0) _ hK Try.underlying34 rfl (by rw [hs]; kernel_rfl)
  have h6' : tmps[6]?.getD undef = .pointer (some ⟨xb, 0, none⟩) := by simpa using h6
  have h7' : tmps[7]?.getD undef = v7 := by simpa using h7
  have h8' : tmps[8]?.getD undef = v8 := by simpa using h8
  simp [results, Try.results17, h6', h7', h8', asAddr, hl]
section
variable {ops : Array Oper} {rest : List Oper} {o : Oper} {a : Act} {Q : Exit → Act → World → Prop} {W : World}
theorem st_row0 (hgd : o.guard = none) (hd : o.dst = none) {ty : TypeId} {x y : Operand} (ho : o.op = .store ty x y) {K : Nat} {T : TypeId} {cs cells : Array Value} (hx : a.eval x = .pointer (some ⟨K, 0, none⟩)) (hy : a.eval y = .agg cells) (hK : W.heap[K]? = some (.cells cs T))
    (hi : (Try.prog.info? ty).map (·.size) = some cells.size) (hold : cs.size = cells.size) (h1 : cells.all (·.oneCell') = true)
    (h : ∀ W', W'.heap[K]? = some (.cells cells T) → W.grownBy W' (some K) → wpList Try.prog ops Q rest a W') : wpList Try.prog ops Q (o :: rest) a W :=
  st_row hgd ho hx hy hK hi hold h1 (fun W' a1 a2 => by rw [hd]; exact h W' a1 a2)
theorem st_cell0 (hgd : o.guard = none) (hd : o.dst = none) {ty : TypeId} {x y : Operand} (ho : o.op = .store ty x y) {K : Nat} {T : TypeId} {cs : Array Value} {j : Nat} {v : Value} (hx : a.eval x = .pointer (some ⟨K, j, none⟩)) (hy : a.eval y = v) (h1 : v.oneCell' = true) (hK : W.heap[K]? = some (.cells cs T))
    (hi : (Try.prog.info? ty).map (·.size) = some 1) (hj : j < cs.size)
    (h : ∀ W', W'.heap[K]? = some (.cells (cs.setIfInBounds j v) T) → W.grownBy W' (some K) → wpList Try.prog ops Q rest a W') : wpList Try.prog ops Q (o :: rest) a W :=
  st_cell hgd ho hx hy h1 hK hi hj (fun W' a1 a2 => by rw [hd]; exact h W' a1 a2)
theorem gate_st (ty : TypeId) (x y : Operand) (ho : o.op = .store ty x y) (k : wpList Try.prog ops Q (o :: rest) a W) : wpList Try.prog ops Q (o :: rest) a W := k
end
section
variable {w0 : World} {tp : Nat} {lv : Value} {mb rb xb : Nat} {A : Option Addr} {n c : Nat} {bs : List Int} {x : Ev} {at_ er : Int} {ts : List ByteArray} {u u' : World}
theorem TkS.stored (h : TkS w0 tp lv mb rb xb A n c bs x at_ er ts u) (hAx : 0 < n → ∀ ad, A = some ad → ad.block ≠ xb) {x' : Ev} (hby : u.grownBy u' (some xb)) (hx : u'.heap[xb]? = some (evO x' none 0 0)) : TkS w0 tp lv mb rb xb A n c bs x' at_ er ts u' := by
  have hc := chg1 hby
  refine ⟨⟨hc.by_ h.rdr.box (fun e => h.ne e), h.rdr.rd.chg hc (fun h0 ad e => hAx h0 ad e), h.rdr.byt, h.rdr.le, h.rdr.cap, h.rdr.few, h.rdr.ap, h.rdr.a0, h.rdr.a1⟩, hx, h.tab.chg hc (fun l hl k hk e => ftp_nobook hl h.xbox (by decide) (by decide) (e ▸ hk)), h.chg.tr (hc.mono (fun b e => .inr (by rw [e]; exact h.x0))), h.r0, h.x0⟩
end
theorem numsR_ki (bs : List Int) : ∀ (l : List Nat) (x : Ev) (a e : Int), (numsR bs l x a e).1.ki = x.ki ∧ (numsR bs l x a e).1.se = x.se ∧ (numsR bs l x a e).1.ti = x.ti ∧ (numsR bs l x a e).1.hs = x.hs
  | [], _, _, _ => ⟨rfl, rfl, rfl, rfl⟩
  | f :: l, x, a, e => by
    have h := numsR_ki bs l (setI x f (smallV (numR bs a e).1)) (numR bs a e).2.1 (numR bs a e).2.2
    have h2 : (setI x f (smallV (numR bs a e).1)).ki = x.ki ∧ (setI x f (smallV (numR bs a e).1)).se = x.se ∧ (setI x f (smallV (numR bs a e).1)).ti = x.ti ∧ (setI x f (smallV (numR bs a e).1)).hs = x.hs := by unfold setI; split <;> exact ⟨rfl, rfl, rfl, rfl⟩
    exact ⟨h.1.trans h2.1, h.2.1.trans h2.2.1, h.2.2.1.trans h2.2.2.1, h.2.2.2.trans h2.2.2.2⟩
theorem setT_ki (x : Ev) (f : Nat) (s : ByteArray) : (setT x f s).ki = x.ki ∧ (setT x f s).se = x.se ∧ (setT x f s).ti = x.ti ∧ (setT x f s).hs = x.hs := by
  unfold setT
  repeat' split
  all_goals exact ⟨rfl, rfl, rfl, rfl⟩
theorem wordsR_ki (bs : List Int) : ∀ (l : List Nat) (x : Ev) (a e : Int) (ts : List ByteArray), (wordsR bs l x a e ts).1.ki = x.ki ∧ (wordsR bs l x a e ts).1.se = x.se ∧ (wordsR bs l x a e ts).1.ti = x.ti ∧ (wordsR bs l x a e ts).1.hs = x.hs
  | [], _, _, _, _ => ⟨rfl, rfl, rfl, rfl⟩
  | f :: l, x, a, e, ts => by
    have h := wordsR_ki bs l (setT x f (textR ts bs a e).1) (textR ts bs a e).2.1 (textR ts bs a e).2.2.1 (textR ts bs a e).2.2.2
    have h2 := setT_ki x f (textR ts bs a e).1
    exact ⟨h.1.trans h2.1, h.2.1.trans h2.2.1, h.2.2.1.trans h2.2.2.1, h.2.2.2.trans h2.2.2.2⟩
theorem evA_noptr (x : Ev) (i : Nat) (q : Option Addr) : (evA x none 0 0)[i]? ≠ some (.pointer q) := by
  intro h
  have hi := (Array.getElem?_eq_some_iff.1 h).1
  have hi : i < 12 := hi
  rcases i with _ | _ | _ | _ | _ | _ | _ | _ | _ | _ | _ | _ | i
  all_goals first
    | (simp [evA] at h; done)
    | omega
theorem rdC_noptr (A : Option Addr) (n c : Nat) (a e : Int) (i : Nat) (q : Option Addr) : (rdC A n c a e)[i]? ≠ some (.pointer q) := by
  intro h
  have hi := (Array.getElem?_eq_some_iff.1 h).1
  have hi : i < 3 := hi
  rcases i with _ | _ | _ | i
  all_goals first
    | (simp [rdC] at h; done)
    | omega
/-- A row of pointers is neither the event's box nor the reader's. -/
theorem ptrs_ap {w0 : World} {tp : Nat} {lv : Value} {mb rb xb : Nat} {A : Option Addr} {n c : Nat} {bs : List Int} {x : Ev} {at_ er : Int} {ts : List ByteArray} {u : World} (h : TkS w0 tp lv mb rb xb A n c bs x at_ er ts u) {Bp : Option Addr} {nl xb' : Nat} {l : List Nat} (hr : RdV 1 u Bp nl (ptrs xb' l)) (hl : l.length = nl) : 0 < nl → ∀ ad, Bp = some ad → ¬ (ad.block = rb) ∧ ¬ (ad.block = xb) := by
  intro h0 ad e
  obtain ⟨b, o, e2, hc⟩ := hr.cells (by omega)
  rw [e2] at e; cases e
  obtain ⟨f, hf⟩ : ∃ f, l[0]? = some f := ⟨_, List.getElem?_eq_getElem (by omega)⟩
  have hcell := hc 0 (.pointer (some ⟨xb', f, none⟩)) (by simp [hf])
  refine ⟨fun e => ?_, fun e => ?_⟩
  · dsimp only at e
    subst e
    simp only [World.cell?, h.rdr.box] at hcell
    exact rdC_noptr A n c at_ er _ _ (by simpa using hcell)
  · dsimp only at e
    subst e
    simp only [World.cell?, h.xbox] at hcell
    exact evA_noptr x _ _ (by simpa using hcell)
theorem setI_box (x : Ev) {f : Nat} (hf : f = 8 ∨ f = 7) (v : Int) : (evA x none 0 0).setIfInBounds f (.int .i64 v) = evA (setI x f v) none 0 0 := by
  rcases hf with rfl | rfl <;> rfl
theorem TkS.smallC {w0 : World} {tp : Nat} {lv : Value} {mb rb xb : Nat} {A : Option Addr} {n c : Nat} {bs : List Int} {x : Ev} {at_ er : Int} {ts : List ByteArray} {u : World} (h : TkS w0 tp lv mb rb xb A n c bs x at_ er ts u) (hl : bs.length ≤ 5000000) :
    Calls Try.prog 51 #[.pointer (some ⟨rb, 0, none⟩)] u fun e' w' => e' = .returned (.int .i64 (smallV (numR bs at_ er).1)) ∧ TkS w0 tp lv mb rb xb A n c bs x (numR bs at_ er).2.1 (numR bs at_ er).2.2 ts w' ∧ Chg (fun b => b = rb) u w' := by
  have hb := numR_bd h.rdr.byt hl er h.rdr.a0 h.rdr.a1
  exact Calls.mono (small_any rb A n c bs at_ er _ _ _ u h.rdr rfl hb.2.2.1 hb.2.2.2 hb.1) (fun e' w' h2 => ⟨h2.1, h.num h2.2, h2.2.chg⟩)
/-- text, from where Take stands. -/
theorem TkS.textC {w0 : World} {tp : Nat} {lv : Value} {mb rb xb : Nat} {A : Option Addr} {n c : Nat} {bs : List Int} {x : Ev} {at_ er : Int} {ts : List ByteArray} {u : World} (h : TkS w0 tp lv mb rb xb A n c bs x at_ er ts u) (hl : bs.length ≤ 5000000) (hAt : 0 < n → ∀ ad, A = some ad → ¬ ftp tp lv mb ad.block ∧ ad.block < w0.heap.size) (hf : ts.length < 1000000) :
    Calls Try.prog 54 #[.pointer (some ⟨rb, 0, none⟩), .pointer (some ⟨tp, 0, none⟩)] u fun e' w' => e' = .returned (.string (textR ts bs at_ er).1) ∧ TkS w0 tp lv mb rb xb A n c bs x (textR ts bs at_ er).2.1 (textR ts bs at_ er).2.2.1 (textR ts bs at_ er).2.2.2 w' ∧ ∃ l, TabI u tp l mb ts ∧ Chg (fun b => b = rb ∨ ftp tp l mb b) u w' := by
  obtain ⟨l, hT, hff⟩ := h.tab
  have hb := textR_bd h.rdr.byt hl ts er h.rdr.a0 h.rdr.a1
  refine Calls.mono (text_any rb A n c bs at_ er _ _ _ tp l mb ts _ u h.rdr hT (ftp_nobook hT h.rdr.box (by decide) (by decide)) (fun h0 ad e hk => ?_) hf rfl hb.1 hb.2.1) (fun e' w' h2 => ⟨h2.1, h.text hT hff h2.2, l, hT, h2.2.chg⟩)
  have := hAt h0 ad e
  rcases hff _ hk with h3 | h3
  · exact this.1 h3
  · omega
theorem setT_box (x : Ev) {f : Nat} (hf : f = 3 ∨ f = 4 ∨ f = 10 ∨ f = 6) (s : ByteArray) : (evA x none 0 0).setIfInBounds f (.string s) = evA (setT x f s) none 0 0 := by
  rcases hf with rfl | rfl | rfl | rfl <;> rfl
theorem wordsR_len {bs : List Int} (hb : Byt bs) (hl : bs.length ≤ 5000000) : ∀ (l : List Nat) (x : Ev) (a e : Int) (ts : List ByteArray), -9223372036854775808 ≤ a → a ≤ 9223372036854775807 → ts.length ≤ (wordsR bs l x a e ts).2.2.2.length ∧ (wordsR bs l x a e ts).2.2.2.length ≤ ts.length + l.length
  | [], _, _, _, ts, _, _ => by simp [wordsR]
  | f :: l, x, a, e, ts, h0, h1 => by
    have hbd := textR_bd hb hl ts e h0 h1
    have h := wordsR_len hb hl l (setT x f (textR ts bs a e).1) (textR ts bs a e).2.1 (textR ts bs a e).2.2.1 (textR ts bs a e).2.2.2 hbd.1 hbd.2.1
    simp only [wordsR, List.length_cons]
    omega
theorem takeD_25 {b : List Int} (hb : Byt b) (ts : List ByteArray) (at_ : Int) (was : List Hdr) : (takeD ts b at_ was).1.length ≤ 25 := by
  have k0 := lebTake_bd hb at_
  obtain ⟨⟨v0, n0, e0⟩, h0⟩ : ∃ r, lebTake b at_ = r := ⟨_, rfl⟩
  rw [h0] at k0
  have k1 := lebTake_bd hb n0
  obtain ⟨⟨v1, n1, e1⟩, h1⟩ : ∃ r, lebTake b n0 = r := ⟨_, rfl⟩
  rw [h1] at k1
  have k2 := lebTake_bd hb n1
  obtain ⟨⟨v2, n2, e2⟩, h2⟩ : ∃ r, lebTake b n1 = r := ⟨_, rfl⟩
  rw [h2] at k2
  have hl := takeFs_len hb v2.toNat ts n2
  unfold takeD
  simp only [h0, h1, h2]
  dsimp only at k0 k1 k2
  split
  · simp
  · split
    · simp
    · split
      · simp
      · split
        · simp
        · split
          · simp
          · split
            · simp
            · split
              · simp
              · rename_i hz _
                have hz0 : (takeFs b v2.toNat ts n2).2.2.1 = 0 := by simpa using hz
                have h3 := hl.2.2 hz0
                simp only [List.length_append, List.length_take, List.length_drop, h3]
                omega
theorem headR_25 {bs : List Int} (hb : Byt bs) (ts : List ByteArray) (at_ er : Int) (was : List Hdr) : (headR ts bs at_ er was).1.length ≤ 25 := by
  unfold headR
  split
  · exact takeD_25 hb _ _ _
  · simp
def finH (s : PB) (more : Int) (y : Ev) (a e : Int) (ts : List ByteArray) : Ev × Int × Int × PB :=
  if e ≠ 0 then (zeroE, 0, e, ⟨ts, s.ti, s.L⟩) else if more < 0 ∨ goodE y = false then (zeroE, 0, 4, ⟨ts, s.ti, s.L⟩) else (y, a, 0, toldB s ts y)
/-- Where Take stands behind the headers. -/
structure TkF (w0 : World) (tp : Nat) (lv : Value) (mb rb xb : Nat) (A : Option Addr) (n c : Nat) (bs : List Int) (y : Ev) (H : Option Addr) (m d : Nat) (at_ er : Int) (ts : List ByteArray) (u : World) : Prop where
  rdr : RdI u rb A n c bs at_ er
  xbox : u.heap[xb]? = some (evO y H m d)
  lst : LstF w0.heap.size y.hs (.slice H m d) u
  tab : TbS w0 tp lv mb ts u
  chg : Chg (ftp tp lv mb) w0 u
  r0 : w0.heap.size ≤ rb
  x0 : w0.heap.size ≤ xb
theorem TkF.zero {w0 : World} {tp : Nat} {lv : Value} {mb rb xb : Nat} {A : Option Addr} {n c : Nat} {bs : List Int} {y : Ev} {H : Option Addr} {m d : Nat} {at_ er : Int} {ts : List ByteArray} {u u' : World} (h : TkF w0 tp lv mb rb xb A n c bs y H m d at_ er ts u) (hAx : 0 < n → ∀ ad, A = some ad → ad.block ≠ xb) (hby : u.grownBy u' (some xb)) (hx : u'.heap[xb]? = some (evO zeroE none 0 0)) : TkS w0 tp lv mb rb xb A n c bs zeroE at_ er ts u' := by
  have hc := chg1 hby
  have hne : rb ≠ xb := fun e => by
    have h1 := h.rdr.box
    rw [e, h.xbox] at h1
    simp only [Option.some.injEq, Obj.cells.injEq] at h1
    exact absurd h1.2.1 (by decide)
  refine ⟨⟨hc.by_ h.rdr.box (fun e => hne e), h.rdr.rd.chg hc (fun h0 ad e => hAx h0 ad e), h.rdr.byt, h.rdr.le, h.rdr.cap, h.rdr.few, h.rdr.ap, h.rdr.a0, h.rdr.a1⟩, hx, h.tab.chg hc (fun l hl k hk e => ftp_nobook hl h.xbox (by decide) (by decide) (e ▸ hk)), h.chg.tr (hc.mono (fun b e => .inr (by rw [e]; exact h.x0))), h.r0, h.x0⟩
/-- What the reader's headers leave in a drawn region. -/
def HdQ (w0 W6 : World) (tp : Nat) (lv : Value) (mb rb : Nat) (A : Option Addr) (n c : Nat) (bs : List Int) (l : List Hdr) (e6 nx e : Int) (us : List ByteArray) (v : Value) (u : World) : Prop :=
  (e6 = 0 → HdR W6.heap.size l e v u) ∧ (e6 ≠ 0 → v = .slice none 0 0) ∧ RdI u rb A n c bs nx e ∧ TbS w0 tp lv mb us u
def G1k (rb xb tp : Nat) (l6 : Value) (mb : Nat) (u u' : World) : Prop := Chg (fun b => b = rb ∨ ftp tp l6 mb b) u u' ∧ u'.heap[xb]? = u.heap[xb]?
def G2k (xb : Nat) (u u' : World) : Prop := u.grownBy u' (some xb)
theorem RdI.keep {w w' : World} {rb : Nat} {A : Option Addr} {n c : Nat} {bs : List Int} {a e : Int} (h : RdI w rb A n c bs a e) (hg : Grew w w') : RdI w' rb A n c bs a e :=
  ⟨heap_keep hg h.box, h.rd.keep hg, h.byt, h.le, h.cap, h.few, h.ap, h.a0, h.a1⟩
def pxHd (w0 W6 : World) (tp : Nat) (lv : Value) (mb rb : Nat) (A : Option Addr) (n c : Nat) (bs : List Int) (l : List Hdr) (e6 nx e : Int) (us : List ByteArray) (G1 G2 : World → World → Prop) : Px G1 G2 where
  p := HdQ w0 W6 tp lv mb rb A n c bs l e6 nx e us
  s1 := false
  s2 := false
  m0 := fun v u u' ⟨h1, h2, h3, h4⟩ hg => ⟨fun h => (h1 h).keep hg, h2, h3.keep hg, h4.keep hg⟩
  m1 := fun h => by cases h
  m2 := fun h => by cases h
def pxLst (l : List Hdr) (G1 G2 : World → World → Prop) : Px G1 G2 where
  p := fun v u => ∃ A n c, v = .slice A n c ∧ LstI u A n c l
  s1 := false
  s2 := false
  m0 := fun v u u' ⟨A, n, c, h1, h2⟩ hg => ⟨A, n, c, h1, h2.chg (F := fun _ => False) (Chg.of hg) (fun _ _ _ _ h => h)⟩
  m1 := fun h => by cases h
  m2 := fun h => by cases h
def pxEnd (w0 : World) (tp : Nat) (lv : Value) (mb rb xb : Nat) (A : Option Addr) (n c : Nat) (bs : List Int) (y : Ev) (at_ er : Int) (ts : List ByteArray) (G1 G2 : World → World → Prop) : Px G1 G2 where
  p := fun _ u => ∃ H m d, TkF w0 tp lv mb rb xb A n c bs y H m d at_ er ts u
  s1 := false
  s2 := false
  m0 := fun v u u' ⟨H, m, d, h⟩ hg => ⟨H, m, d, h.rdr.keep hg, heap_keep hg h.xbox, h.lst.keep hg, h.tab.keep hg, h.chg.tr (Chg.of hg), h.r0, h.x0⟩
  m1 := fun h => by cases h
  m2 := fun h => by cases h
def takeW (s : PB) (bs : List Int) (more : Int) (x : Ev) (a e : Int) : Ev × Int × Int × PB :=
  takeH s bs more (wordsR bs (worF x.ki) x a e s.ts).1 (wordsR bs (worF x.ki) x a e s.ts).2.1 (wordsR bs (worF x.ki) x a e s.ts).2.2.1 (wordsR bs (worF x.ki) x a e s.ts).2.2.2
/-- Behind Take. -/
def BTakeQ (w : World) (p tp : Nat) (lv : Value) (mb lb k : Nat) (z : Ev × Int × Int × PB) (e : Ending) (w' : World) : Prop :=
  ∃ H m d, e = .returned (.tuple #[evV z.1 H m d, .int .i64 z.2.1, .int .i64 z.2.2.1]) ∧ LstF w.heap.size z.1.hs (.slice H m d) w' ∧ (∃ lv', BookI w' p tp lv' mb lb (k + 2) z.2.2.2 ∧ ∀ b, ftb p tp lv' mb lb b → ftb p tp lv mb lb b ∨ w.heap.size ≤ b) ∧ Chg (ftb p tp lv mb lb) w w'
theorem LstF.nil (b : Nat) (u : World) : LstF b [] (.slice none 0 0) u := ⟨none, 0, 0, rfl, RdV.nil _ _ _, by omega, by omega, HdB.none _, fun _ => ⟨rfl, rfl⟩, FreshA.none _⟩

set_option maxRecDepth 100000 in
set_option maxHeartbeats 6400000 in
theorem btake_any (p tp : Nat) (lv : Value) (mb lb k : Nat) (s : PB) (A : Option Addr) (n c : Nat) (bs : List Int) (at_ : Int) (w : World) (hB : BookI w p tp lv mb lb k s) (hrb : Rd w A n bs) (hb : Byt bs) (hnc : n ≤ c) (hc : c ≤ 9223372036854775807) (hn : n ≤ 5000000) (h0 : -9223372036854775808 ≤ at_) (h1 : at_ ≤ 9223372036854775807) (hAf : 0 < n → ∀ ad, A = some ad → ¬ ftb p tp lv mb lb ad.block) (hk : k < 990) :
    Calls Try.prog 17 #[.pointer (some ⟨p, 0, none⟩), .slice A n c, .int .i64 at_] w (BTakeQ w p tp lv mb lb k (takeB s bs at_)) := by
  have hbl : bs.length ≤ 5000000 := by rw [hrb.len]; exact hn
  have hAlt : 0 < n → ∀ ad, A = some ad → ad.block < w.heap.size := fun hp ad e => by
    obtain ⟨b, o, e2, hcl⟩ := hrb.cells hp
    rw [e2] at e; cases e
    exact lt_of_cell (p := ⟨b, o + 0, none⟩) (hcl 0 hp)
  have HB := Lib.hid hB
  have HRB := Lib.hid hrb
  have HAF := Lib.hid hAf
  have HALT := Lib.hid hAlt
  have HBYT := Lib.hid hb
  have HBL := Lib.hid hbl
  clear hB hrb hAf hAlt hb hbl
  go_enter Try.func17, Try.ntmps17
  go_upto_region 4 with fail
  have hx0 := heap_keep ((Grew.rf _).al (.cells (rdC A n c at_ 0) 106)) (heap_alloc_new w (evO zeroE none 0 0))
  have hr0 := heap_alloc_new (w.alloc (evO zeroE none 0 0)) (.cells (rdC A n c at_ 0) 106)
  have hgW : Grew w ((w.alloc (evO zeroE none 0 0)).alloc (.cells (rdC A n c at_ 0) 106)) := ((Grew.rf w).al _).al _
  rw [World.size_alloc] at hr0
  have hT0 : TkS w tp lv mb (w.heap.size + 1) w.heap.size A n c bs zeroE at_ 0 s.ts ((w.alloc (evO zeroE none 0 0)).alloc (.cells (rdC A n c at_ 0) 106)) :=
    ⟨⟨hr0, HRB.out.keep hgW, HBYT.out, hnc, hc, hn, fun hp ad e h => by have := HALT.out hp ad e; omega, h0, h1⟩, hx0, ⟨lv, HB.out.tab.keep hgW, fun k hk => .inl hk⟩, Chg.of hgW, by omega, Nat.le_refl _⟩
  have hAx : 0 < n → ∀ ad, A = some ad → ad.block ≠ w.heap.size := fun hp ad e h => by have := HALT.out hp ad e; omega
  obtain ⟨W0, hW0⟩ : ∃ W0, (w.alloc (evO zeroE none 0 0)).alloc (.cells (rdC A n c at_ 0) 106) = W0 := ⟨_, rfl⟩
  simp only [evO, evA, rdC] at hW0
  simp only [evO, evA, rdC] at hT0
  rw [hW0] at hT0 ⊢
  obtain ⟨xb, hxb⟩ : ∃ xb, w.heap.size = xb := ⟨_, rfl⟩
  obtain ⟨rb, hrbe⟩ : ∃ rb, xb + 1 = rb := ⟨_, rfl⟩
  rw [hxb] at hT0 hAx ⊢
  rw [hrbe] at hT0 ⊢
  have HXB := Lib.hid hxb
  clear hx0 hr0 hgW hW0 hxb hrbe
  have hap := HB.out.apart
  have hcells := HB.out.cells
  obtain ⟨t0, ht0⟩ : ∃ t0, s.ti = t0 := ⟨_, rfl⟩
  have hb0 := HB.out.t0
  have hb1 := HB.out.t1
  rw [ht0] at hcells hb0 hb1
  have HT0 := Lib.hid ht0
  have HCELLS := Lib.hid hcells
  have HAP := Lib.hid hap
  have HAX := Lib.hid hAx
  -- the first three numbers
  obtain ⟨⟨v1, n1, e1⟩, hr1⟩ : ∃ r, numR bs at_ 0 = r := ⟨_, rfl⟩
  obtain ⟨⟨v2, n2, e2⟩, hr2⟩ : ∃ r, numR bs n1 e1 = r := ⟨_, rfl⟩
  obtain ⟨⟨v3, n3, e3⟩, hr3⟩ : ∃ r, numR bs n2 e2 = r := ⟨_, rfl⟩
  have hbd1 := numR_bd HBYT.out HBL.out 0 h0 h1
  rw [hr1] at hbd1
  have hbd2 := numR_bd HBYT.out HBL.out e1 hbd1.2.2.1 hbd1.2.2.2
  rw [hr2] at hbd2
  have hbd3 := numR_bd HBYT.out HBL.out e2 hbd2.2.2.1 hbd2.2.2.2
  rw [hr3] at hbd3
  dsimp only at hbd1 hbd2 hbd3
  have hs1 := hT0.small HBL.out
  rw [hr1] at hs1
  have hkb := smallV_bd hbd1.1
  have hsb := smallV_bd hbd2.1
  have hmb := smallV_bd hbd3.1
  obtain ⟨k1, hk1⟩ : ∃ k1, smallV v1 = k1 := ⟨_, rfl⟩
  obtain ⟨se, hse⟩ : ∃ se, smallV v2 = se := ⟨_, rfl⟩
  obtain ⟨more, hmo⟩ : ∃ more, smallV v3 = more := ⟨_, rfl⟩
  rw [hk1] at hkb
  rw [hse] at hsb
  rw [hmo] at hmb
  dsimp only at hs1
  rw [hk1] at hs1
  have htk : takeB s bs at_ = (if e1 = 0 ∧ ¬ (1 ≤ k1 ∧ k1 ≤ 7) then (zeroE, 0, 4, s) else takeM s bs more (numsR bs (numF k1) { zeroE with ki := k1, se := se, ti := t0 + max more 0 } n3 e3).1 (numsR bs (numF k1) { zeroE with ki := k1, se := se, ti := t0 + max more 0 } n3 e3).2.1 (numsR bs (numF k1) { zeroE with ki := k1, se := se, ti := t0 + max more 0 } n3 e3).2.2) := by
    unfold takeB
    simp only [hr1, hr2, hr3, hk1, hse, hmo, ht0]
  have HTK := Lib.hid htk
  have HS1 := Lib.hid hs1
  have HR2 := Lib.hid hr2
  have HR3 := Lib.hid hr3
  have HSE := Lib.hid hse
  have HMO := Lib.hid hmo
  clear hap hcells ht0 hr1 hr2 hr3 hs1 hk1 hse hmo htk hAx hT0
  go_upto_region 5 with (first | (go_at_call 51; refine Calls.mono HS1.out ?_; rintro e w1 ⟨rfl, hT1⟩; have hx1 := hT1.xbox) | ((with_reducible refine gate_st 3 (.tmp 25) (.tmp 24) rfl ?_); refine st_cell0 rfl rfl rfl rfl rfl rfl hx1 (by kernel_rfl) (by simp) ?_; intro W1 hW1 hby1))
  have hT1' : TkS w tp lv mb rb xb A n c bs { zeroE with ki := k1 } n1 e1 s.ts W1 := hT1.stored HAX.out hby1 hW1
  have HT1 := Lib.hid hT1'
  clear hT1 hx1 hW1 hby1 hT1'
  have c2 : W1.cell? ⟨rb, 2, none⟩ = some (.int .i64 e1) := cell_of_heap HT1.out.rdr.box rfl
  have c0 : W1.cell? ⟨xb, 0, none⟩ = some (.int .i64 k1) := cell_of_heap HT1.out.xbox rfl
  by_cases hbad : e1 = 0 ∧ ¬ (1 ≤ k1 ∧ k1 ≤ 7)
  case pos =>
    obtain ⟨he, hk17⟩ := hbad
    subst he
    have hd : decide (1 ≤ k1 ∧ k1 ≤ 7) = false := decide_eq_false hk17
    have htk2 : takeB s bs at_ = (zeroE, 0, 4, s) := by rw [HTK.out, if_pos ⟨rfl, hk17⟩]
    have HTK2 := Lib.hid htk2
    have hx1 := HT1.out.xbox
    clear htk2 hk17
    go_wp2_with (first | (go_at_call 52; refine Calls.mono (ewithin_any _ _ _ _) ?_; rintro e w4 ⟨rfl, rfl⟩; rw [hd]) | ((with_reducible refine gate_st 34 (.tmp 6) (.tmp 37) rfl ?_); refine st_row0 rfl rfl rfl rfl rfl hx1 (by kernel_rfl) rfl (by simp [Value.oneCell']) ?_; intro W2 hW2 hby2))
    have hT2 : TkS w tp lv mb rb xb A n c bs zeroE n1 0 s.ts W2 := HT1.out.stored HAX.out hby2 hW2
    refine bodyPost_ret (take_ret rfl rfl rfl hW2 rfl) rfl ?_
    rw [HTK2.out]
    obtain ⟨l2, hTT, hff⟩ := hT2.tab
    have hchg := hT2.chg
    have hnoH : ∀ k cs fr, w.heap[k]? = some (.cells cs 124 fr) → ¬ ftp tp lv mb k := fun k cs fr h => ftp_nobook HB.out.tab h (by decide) (by decide)
    refine ⟨none, 0, 0, rfl, LstF.nil _ _, ⟨l2, ⟨hchg.by_ HB.out.cells HAP.out.2.1, hTT, (HB.out.map.chg hchg HAP.out.2.2 hnoH).mono (by omega), HB.out.ne, HB.out.t0, HB.out.t1, Nat.le_trans HB.out.few (by omega), by omega⟩, fun b hb => ?_⟩, hchg.mono (fun b h => .inr (.inr h))⟩
    rcases hb with hb | hb | hb
    · exact .inl (.inl hb)
    · exact .inl (.inr (.inl hb))
    · exact (hff b hb).imp (fun h => .inr (.inr h)) (fun h => h)
  case neg =>
  have htk2 : takeB s bs at_ = takeM s bs more (numsR bs (numF k1) { zeroE with ki := k1, se := se, ti := t0 + max more 0 } n3 e3).1 (numsR bs (numF k1) { zeroE with ki := k1, se := se, ti := t0 + max more 0 } n3 e3).2.1 (numsR bs (numF k1) { zeroE with ki := k1, se := se, ti := t0 + max more 0 } n3 e3).2.2 := by rw [HTK.out, if_neg hbad]
  have HTK2 := Lib.hid htk2
  clear htk2 HTK
  have hs2 := fun (u : World) (h : TkS w tp lv mb rb xb A n c bs { zeroE with ki := k1 } n1 e1 s.ts u) => h.small HBL.out
  rw [HR2.out] at hs2
  dsimp only at hs2
  rw [HSE.out] at hs2
  have hs3 := fun (u : World) (h : TkS w tp lv mb rb xb A n c bs { zeroE with ki := k1, se := se } n2 e2 s.ts u) => h.small HBL.out
  rw [HR3.out] at hs3
  dsimp only at hs3
  rw [HMO.out] at hs3
  have HS2 := Lib.hid hs2
  have HS3 := Lib.hid hs3
  clear hs2 hs3 HS1
  go_cut [36] from 26 to 36 (fun f wx => f = .bool false ∧ W1 = wx)
  case first =>
    by_cases he1 : e1 = 0
    · subst he1
      have hk17 : 1 ≤ k1 ∧ k1 ≤ 7 := by
        rcases Classical.em (1 ≤ k1 ∧ k1 ≤ 7) with h | h
        · exact h
        · exact absurd ⟨rfl, h⟩ hbad
      have hd : decide (1 ≤ k1 ∧ k1 ≤ 7) = true := decide_eq_true hk17
      clear hbad hk17
      go_wp2_with (go_at_call 52; refine Calls.mono (ewithin_any _ _ _ _) ?_; rintro e w4 ⟨rfl, rfl⟩; rw [hd])
      go_meet
      exact ⟨rfl, rfl⟩
    · have d0 : (e1 == 0) = false := by simpa using he1
      have dd0 : decide (e1 = 0) = false := by simpa using he1
      clear hbad
      go_wp2_with fail
      go_meet
      exact ⟨rfl, rfl⟩
  case rest =>
  obtain ⟨rfl, hwe⟩ := hcut
  subst hwe
  clear c2 c0
  go_upto_region 10 with (first | (have hh := hT2'; go_at_call 51; refine Calls.mono (HS3.out _ hT2') ?_; rintro e w3 ⟨rfl, hT3⟩; have hx3 := hT3.xbox; have hp3 : w3.cell? ⟨p, 1, none⟩ = some (.int .i64 t0) := cell_of_heap (hT3.chg.by_ HCELLS.out HAP.out.2.1) rfl) | (go_at_call 51; refine Calls.mono (HS2.out _ HT1.out) ?_; rintro e w2 ⟨rfl, hT2⟩; have hx2 := hT2.xbox) | ((with_reducible refine gate_st 3 (.tmp 40) (.tmp 39) rfl ?_); refine st_cell0 rfl rfl rfl rfl rfl rfl hx2 (by kernel_rfl) (by simp) ?_; intro W2 hW2 hby2; have hT2' : TkS w tp lv mb rb xb A n c bs { zeroE with ki := k1, se := se } n2 e2 s.ts W2 := hT2.stored HAX.out hby2 hW2) | ((with_reducible refine gate_st 3 (.tmp 50) (.tmp 49) rfl ?_); refine st_cell0 rfl rfl rfl rfl rfl rfl hx3 (by kernel_rfl) (by simp) ?_; intro W3 hW3 hby3))
  have hmx : (if more < 0 then (0 : Int) else more) = max more 0 := by split <;> omega
  simp only [Act.eval, List.getElem?_toArray, Array.getD_eq_getD_getElem?, List.getElem?_cons_succ, List.getElem?_cons_zero, Option.getD_some] at hW3
  try rw [hmx] at hW3
  have hT3' : TkS w tp lv mb rb xb A n c bs { zeroE with ki := k1, se := se, ti := t0 + max more 0 } n3 e3 s.ts W3 := hT3.stored HAX.out hby3 hW3
  obtain ⟨x3, hx3e⟩ : ∃ x3 : Ev, { zeroE with ki := k1, se := se, ti := t0 + max more 0 } = x3 := ⟨_, rfl⟩
  have hk3 : x3.ki = k1 := by rw [← hx3e]
  have hs3e : x3.hs = [] := by rw [← hx3e]
  have hse3 : x3.se = se := by rw [← hx3e]
  have hti3 : 0 ≤ x3.ti ∧ x3.ti ≤ 1099511627776 + 1125899906842624 := by rw [← hx3e]; dsimp only; omega
  rw [hx3e] at hT3' HTK2
  have HT3 := Lib.hid hT3'
  clear hT2 hx2 hW2 hby2 hT2' hT3 hx3 hp3 hW3 hby3 hT3' hx3e HS2 HS3 HR2 HR3 HSE HMO hh
  -- the numbers of its kind
  have e0 : W3.cell? ⟨xb, 0, none⟩ = some (.int .i64 k1) := by rw [← hk3]; exact cell_of_heap HT3.out.xbox rfl
  have hen := enumbers_any k1 xb W3 e0
  have hn78 : ∀ f ∈ numF k1, f = 8 ∨ f = 7 := by
    intro f hf
    unfold numF at hf
    repeat' split at hf
    all_goals simp at hf
    all_goals omega
  obtain ⟨nf, hnf⟩ : ∃ nf, numF k1 = nf := ⟨_, rfl⟩
  rw [hnf] at hen hn78 HTK2
  obtain ⟨nl, hnl⟩ : ∃ nl, nf.length = nl := ⟨_, rfl⟩
  have hnl2 : nl ≤ 2 := by
    rw [← hnl, ← hnf]
    unfold numF
    repeat' split
    all_goals simp
  have HNL := Lib.hid hnl
  have HN78 := Lib.hid hn78
  have HEN := Lib.hid hen
  clear hen hn78 hnf hnl e0
  go_upto_block 0 with (go_at_call 42; refine Calls.mono HEN.out ?_; rintro e w5 ⟨Bp, rfl, hrp, hty, hgp⟩; rw [HNL.out] at hrp ⊢; have HRP := Lib.hid hrp; have HTY := Lib.hid hty; have HGP := Lib.hid hgp; clear hrp hty hgp)
  go_cut [] from 53 to 61 (fun wx => TkS w tp lv mb rb xb A n c bs (numsR bs nf x3 n3 e3).1 (numsR bs nf x3 n3 e3).2.1 (numsR bs nf x3 n3 e3).2.2 s.ts wx)
  case first =>
    go_wp2_with fail
    go_loopw [53] (fun i wr => ∃ (j : Nat), i = .int .i64 (j : Int) ∧ j ≤ nl ∧ TkS w tp lv mb rb xb A n c bs (numsR bs (nf.take j) x3 n3 e3).1 (numsR bs (nf.take j) x3 n3 e3).2.1 (numsR bs (nf.take j) x3 n3 e3).2.2 s.ts wr ∧ RdV 1 wr Bp nl (ptrs xb nf)) (fun i _ => nl - (intOf i).toNat)
    case atStart => exact ⟨0, rfl, Nat.zero_le _, HT3.out.keep HGP.out, HRP.out⟩
    case round =>
      obtain ⟨j, rfl, hj, hTj, hrp⟩ := hrel
      by_cases hlt : j < nl
      · obtain ⟨pb, po, hBe, hcells⟩ := hrp.cells (by omega)
        obtain ⟨f, hf⟩ : ∃ f, nf[j]? = some f := ⟨_, List.getElem?_eq_getElem (by rw [HNL.out]; exact hlt)⟩
        have hpc : wr.cell? ⟨pb, po + j, none⟩ = some (.pointer (some ⟨xb, f, none⟩)) := hcells j _ (by simp [hf])
        have hf78 := HN78.out f (List.mem_of_getElem? hf)
        have hf12 : f < 12 := by omega
        obtain ⟨⟨y, a, e⟩, hy⟩ : ∃ r, numsR bs (nf.take j) x3 n3 e3 = r := ⟨_, rfl⟩
        rw [hy] at hTj
        dsimp only at hTj
        have hsj := hTj.smallC HBL.out
        obtain ⟨⟨v, a2, ee2⟩, hv⟩ : ∃ r, numR bs a e = r := ⟨_, rfl⟩
        rw [hv] at hsj
        dsimp only at hsj
        have hap := ptrs_ap hTj hrp HNL.out (by omega)
        have HTJ := Lib.hid hTj
        have HSJ := Lib.hid hsj
        have HY := Lib.hid hy
        have HV := Lib.hid hv
        have HF := Lib.hid hf
        have HRPJ := Lib.hid hrp
        have HAPJ := Lib.hid hap
        have HF78 := Lib.hid hf78
        subst hBe
        clear hTj hsj hy hv hf hrp hap hcells hf78
        go_wp2_with (first | (go_at_call 51; refine Calls.mono HSJ.out ?_; rintro e' w6 ⟨rfl, hT6, hC6⟩; have hx6 := hT6.xbox) | ((with_reducible refine gate_st 3 (.tmp 60) (.tmp 59) rfl ?_); refine st_cell0 rfl rfl rfl rfl rfl rfl hx6 (by kernel_rfl) hf12 ?_; intro W7 hW7 hby7))
        go_roundw
        case rel =>
          have e1 : numsR bs (nf.take (j + 1)) x3 n3 e3 = (setI y f (smallV v), a2, ee2) := by
            rw [List.take_add_one, HF.out, Option.toList_some, numsR_snoc, HY.out]
            simp only [numsR, HV.out]
          have hW8 : W7.heap[xb]? = some (evO (setI y f (smallV v)) none 0 0) := by
            rw [show evO (setI y f (smallV v)) none 0 0 = .cells (evA (setI y f (smallV v)) none 0 0) 34 from rfl, ← setI_box y HF78.out]
            exact hW7
          have hT8 := hT6.stored HAX.out hby7 hW8
          refine ⟨j + 1, by go_num, by omega, by rw [e1]; exact hT8, ?_⟩
          exact (HRPJ.out.chg hC6 (fun _ ad e => (HAPJ.out ad e).1)).chg (chg1 hby7) (fun _ ad e => (HAPJ.out ad e).2)
        case measure => simp [intOf]; omega
      · have he : nf.take j = nf := List.take_of_length_le (by rw [HNL.out]; omega)
        rw [he] at hTj
        have HTJ := Lib.hid hTj
        clear hTj hrp
        go_wp2_with fail
        go_meet
        exact HTJ.out
  case rest =>
  have hki := numsR_ki bs nf x3 n3 e3
  obtain ⟨⟨y4, n4, e4⟩, hq4⟩ : ∃ r, numsR bs nf x3 n3 e3 = r := ⟨_, rfl⟩
  rw [hq4] at hcut hki HTK2
  dsimp only at hcut hki HTK2
  rw [hk3, hse3, hs3e] at hki
  have hti4 : 0 ≤ y4.ti ∧ y4.ti ≤ 1099511627776 + 1125899906842624 := by rw [hki.2.2.1]; exact hti3
  obtain ⟨W4, hW4⟩ : ∃ W4, W4 = wc := ⟨_, rfl⟩
  subst hW4
  have HT4 := Lib.hid hcut
  have hk4 := hki.1
  have hs4 := hki.2.2.2
  have hse4 := hki.2.1
  clear hcut hki hq4 HT3 HRP HTY HGP HEN HN78 HNL hnl2 hk3 hs3e hse3 hti3
  have c0 : W4.cell? ⟨xb, 0, none⟩ = some (.int .i64 k1) := by rw [← hk4]; exact cell_of_heap HT4.out.xbox rfl
  have hnoH : ∀ k cs fr, w.heap[k]? = some (.cells cs 124 fr) → ¬ ftp tp lv mb k := fun k cs fr h => ftp_nobook HB.out.tab h (by decide) (by decide)
  -- an end with an error
  have hend : ∀ (z : Ev × Int × Int × PB) (u : World) (ts' : List ByteArray) (a e er : Int) (x : Ev), TkS w tp lv mb rb xb A n c bs x a e ts' u → z = (zeroE, 0, er, ⟨ts', s.ti, s.L⟩) → ts'.length ≤ 60 * (k + 2) → BTakeQ w p tp lv mb lb k z (.returned (.tuple #[evV zeroE none 0 0, .int .i64 0, .int .i64 er])) u := by
    intro z u ts' a e er x hT hz hlen
    subst hz
    obtain ⟨l2, hTT, hff⟩ := hT.tab
    refine ⟨none, 0, 0, rfl, LstF.nil _ _, ⟨l2, ⟨hT.chg.by_ HB.out.cells HAP.out.2.1, hTT, (HB.out.map.chg hT.chg HAP.out.2.2 hnoH).mono (by omega), HB.out.ne, HB.out.t0, HB.out.t1, hlen, by omega⟩, fun b hb => ?_⟩, hT.chg.mono (fun b h => .inr (.inr h))⟩
    rcases hb with hb | hb | hb
    · exact .inl (.inl hb)
    · exact .inl (.inr (.inl hb))
    · exact (hff b hb).imp (fun h => .inr (.inr h)) (fun h => h)
  have HEND := Lib.hid hend
  have hfew := HB.out.few
  have HFEW := Lib.hid hfew
  clear hend hnoH hfew
  go_upto_block 2 with fail
  go_cut [] from 62 to 86 (fun wx => ∃ y a e, TkS w tp lv mb rb xb A n c bs y a e s.ts wx ∧ takeB s bs at_ = takeW s bs more y a e ∧ y.ki = k1 ∧ y.hs = [] ∧ y.se = se ∧ 0 ≤ y.ti ∧ y.ti ≤ 1099511627776 + 1125899906842624)
  case first =>
    by_cases h2 : k1 = 2
    · subst h2
      obtain ⟨⟨vr, nr, er⟩, hr⟩ : ∃ r, numR bs n4 e4 = r := ⟨_, rfl⟩
      obtain ⟨⟨vt, nt, et⟩, ht⟩ : ∃ r, numR bs nr er = r := ⟨_, rfl⟩
      have hnu := HT4.out.number HBL.out
      rw [hr] at hnu
      dsimp only at hnu
      have hm : takeB s bs at_ = if er = 0 ∧ 1 < vr then (zeroE, 0, 4, s) else takeW s bs more { y4 with cr := decide (vr = 1), nn := vt } nt et := by
        rw [HTK2.out]
        unfold takeM takeW
        simp only [hk4, if_true, hr, ht]
      have hbd := numR_bd HBYT.out HBL.out e4 HT4.out.rdr.a0 HT4.out.rdr.a1
      rw [hr] at hbd
      dsimp only at hbd
      have hnt := fun (u : World) (x : Ev) (h : TkS w tp lv mb rb xb A n c bs x nr er s.ts u) => h.number HBL.out
      rw [ht] at hnt
      dsimp only at hnt
      have HNU := Lib.hid hnu
      have HM := Lib.hid hm
      have HNT := Lib.hid hnt
      clear hnu hm hnt hr ht HTK2
      by_cases hbad : er = 0 ∧ 1 < vr
      · obtain ⟨rfl, hv1⟩ := hbad
        have hdv : decide (1 < vr) = true := decide_eq_true hv1
        have hz : takeB s bs at_ = (zeroE, 0, 4, s) := by rw [HM.out, if_pos ⟨rfl, hv1⟩]
        have HZ := Lib.hid hz
        clear hz
        go_wp2_with (first | (go_at_call 53; refine Calls.mono HNU.out ?_; rintro e' w5 ⟨rfl, hT5⟩; have hx5 := hT5.xbox; have hc5 : w5.cell? ⟨rb, 2, none⟩ = some (.int .i64 0) := cell_of_heap hT5.rdr.box rfl) | ((with_reducible refine gate_st 34 (.tmp 6) (.tmp 80) rfl ?_); refine st_row0 rfl rfl rfl rfl rfl hx5 (by kernel_rfl) rfl (by simp [Value.oneCell']) ?_; intro W6 hW6 hby6))
        have hT6 : TkS w tp lv mb rb xb A n c bs zeroE nr 0 s.ts W6 := hT5.stored HAX.out hby6 hW6
        refine bodyPost_ret (take_ret rfl rfl rfl hW6 rfl) rfl ?_
        exact HEND.out _ _ s.ts _ _ 4 zeroE hT6 HZ.out (Nat.le_trans HFEW.out (by omega))
      · have hz : takeB s bs at_ = takeW s bs more { y4 with cr := decide (vr = 1), nn := vt } nt et := by rw [HM.out, if_neg hbad]
        have HZ := Lib.hid hz
        have hw5 : ∀ (b : Bool), (b = true ↔ er = 0 ∧ 1 < vr) → b = false := fun b hb => by cases b with | false => rfl | true => exact absurd (hb.1 rfl) hbad
        clear hz HM
        by_cases h0e : er = 0
        · subst h0e
          have hdv : decide (1 < vr) = false := decide_eq_false (fun h => hbad ⟨rfl, h⟩)
          clear hbad hw5
          go_wp2_with (first | (have hh := hT6; go_at_call 53; refine Calls.mono (HNT.out _ _ hT6) ?_; rintro e' w7 ⟨rfl, hT7⟩; have hx7 := hT7.xbox) | (go_at_call 53; refine Calls.mono HNU.out ?_; rintro e' w5 ⟨rfl, hT5⟩; have hx5 := hT5.xbox; have hc5 : w5.cell? ⟨rb, 2, none⟩ = some (.int .i64 0) := cell_of_heap hT5.rdr.box rfl) | ((with_reducible refine gate_st 4 (.tmp 83) (.tmp 82) rfl ?_); refine st_cell0 rfl rfl rfl rfl rfl rfl hx5 (by kernel_rfl) (by simp) ?_; intro W6 hW6 hby6; have hT6 : TkS w tp lv mb rb xb A n c bs { y4 with cr := decide (vr = 1) } nr 0 s.ts W6 := hT5.stored HAX.out hby6 hW6) | ((with_reducible refine gate_st 32 (.tmp 86) (.tmp 85) rfl ?_); refine st_cell0 rfl rfl rfl rfl rfl rfl hx7 (by kernel_rfl) (by simp) ?_; intro W8 hW8 hby8; have hT8 : TkS w tp lv mb rb xb A n c bs { y4 with cr := decide (vr = 1), nn := vt } nt et s.ts W8 := hT7.stored HAX.out hby8 hW8))
          go_meet
          exact ⟨_, _, _, hT8, HZ.out, hk4, hs4, hse4, hti4⟩
        · have d0 : (er == 0) = false := by simpa using h0e
          have dd0 : decide (er = 0) = false := by simpa using h0e
          clear hbad hw5
          go_wp2_with (first | (have hh := hT6; go_at_call 53; refine Calls.mono (HNT.out _ _ hT6) ?_; rintro e' w7 ⟨rfl, hT7⟩; have hx7 := hT7.xbox) | (go_at_call 53; refine Calls.mono HNU.out ?_; rintro e' w5 ⟨rfl, hT5⟩; have hx5 := hT5.xbox; have hc5 : w5.cell? ⟨rb, 2, none⟩ = some (.int .i64 er) := cell_of_heap hT5.rdr.box rfl) | ((with_reducible refine gate_st 4 (.tmp 83) (.tmp 82) rfl ?_); refine st_cell0 rfl rfl rfl rfl rfl rfl hx5 (by kernel_rfl) (by simp) ?_; intro W6 hW6 hby6; have hT6 : TkS w tp lv mb rb xb A n c bs { y4 with cr := decide (vr = 1) } nr er s.ts W6 := hT5.stored HAX.out hby6 hW6) | ((with_reducible refine gate_st 32 (.tmp 86) (.tmp 85) rfl ?_); refine st_cell0 rfl rfl rfl rfl rfl rfl hx7 (by kernel_rfl) (by simp) ?_; intro W8 hW8 hby8; have hT8 : TkS w tp lv mb rb xb A n c bs { y4 with cr := decide (vr = 1), nn := vt } nt et s.ts W8 := hT7.stored HAX.out hby8 hW8))
          go_meet
          exact ⟨_, _, _, hT8, HZ.out, hk4, hs4, hse4, hti4⟩
    by_cases h56 : k1 = 5 ∨ k1 = 6
    · obtain ⟨⟨vr, nr, er⟩, hr⟩ : ∃ r, numR bs n4 e4 = r := ⟨_, rfl⟩
      have hnu := HT4.out.number HBL.out
      rw [hr] at hnu
      dsimp only at hnu
      have hz : takeB s bs at_ = takeW s bs more { y4 with nn := vr } nr er := by
        rw [HTK2.out]
        unfold takeM takeW
        simp only [hk4, h2, h56, if_true, if_false, hr]
      have HNU := Lib.hid hnu
      have HZ := Lib.hid hz
      clear hnu hz hr HTK2
      rcases h56 with rfl | rfl
      all_goals
        go_wp2_with (first | (go_at_call 53; refine Calls.mono HNU.out ?_; rintro e' w5 ⟨rfl, hT5⟩; have hx5 := hT5.xbox) | ((with_reducible refine gate_st 32 (.tmp 86) (.tmp 85) rfl ?_); refine st_cell0 rfl rfl rfl rfl rfl rfl hx5 (by kernel_rfl) (by simp) ?_; intro W6 hW6 hby6; have hT6 : TkS w tp lv mb rb xb A n c bs { y4 with nn := vr } nr er s.ts W6 := hT5.stored HAX.out hby6 hW6))
        go_meet
        exact ⟨_, _, _, hT6, HZ.out, hk4, hs4, hse4, hti4⟩
    have h5 : k1 ≠ 5 := fun e => h56 (.inl e)
    have h6 : k1 ≠ 6 := fun e => h56 (.inr e)
    have hz : takeB s bs at_ = takeW s bs more y4 n4 e4 := by
      rw [HTK2.out]
      unfold takeM takeW
      simp only [hk4, h2, h56, if_false]
    have HZ := Lib.hid hz
    have d2 : (k1 == 2) = false := by simpa using h2
    have d5 : (k1 == 5) = false := by simpa using h5
    have d6 : (k1 == 6) = false := by simpa using h6
    have dd2 : decide (k1 = 2) = false := by simpa using h2
    have dd5 : decide (k1 = 5) = false := by simpa using h5
    have dd6 : decide (k1 = 6) = false := by simpa using h6
    clear hz h56 h2 h5 h6
    go_wp2_with fail
    go_meet
    exact ⟨y4, n4, e4, HT4.out, HZ.out, hk4, hs4, hse4, hti4⟩
  case rest =>
  obtain ⟨y5, n5, e5, hT5, htk5, hk5, hs5, hse5, hti5⟩ := hcut
  obtain ⟨W5, hW5⟩ : ∃ W5, W5 = wc := ⟨_, rfl⟩
  subst hW5
  have HT5 := Lib.hid hT5
  have HTK5 := Lib.hid htk5
  clear hT5 htk5 HT4 HTK2 hk4 hs4 hse4 hti4 c0
  have c0 : W5.cell? ⟨xb, 0, none⟩ = some (.int .i64 k1) := by rw [← hk5]; exact cell_of_heap HT5.out.xbox rfl
  have hen := ewords_any k1 xb W5 c0
  have hwn : (worF k1).length ≤ 4 ∧ ∀ f ∈ worF k1, f = 3 ∨ f = 4 ∨ f = 10 ∨ f = 6 := by
    unfold worF
    repeat' split
    all_goals simp
  obtain ⟨wf, hwf⟩ : ∃ wf, worF k1 = wf := ⟨_, rfl⟩
  rw [hwf] at hen hwn
  obtain ⟨wl, hwl⟩ : ∃ wl, wf.length = wl := ⟨_, rfl⟩
  have hwl4 := hwn.1
  rw [hwl] at hwl4
  have hwm := hwn.2
  have HWF := Lib.hid hwf
  have HWL := Lib.hid hwl
  have HWM := Lib.hid hwm
  have HEN := Lib.hid hen
  have hAt : 0 < n → ∀ ad, A = some ad → ¬ ftp tp lv mb ad.block ∧ ad.block < w.heap.size := fun h ad e => ⟨fun hk => HAF.out h ad e (.inr (.inr hk)), HALT.out h ad e⟩
  have HAT := Lib.hid hAt
  clear hen hwn hwf hwl hwm hAt c0
  go_upto_block 5 with (go_at_call 44; refine Calls.mono HEN.out ?_; rintro e w5' ⟨Bp, rfl, hrp, hty, hgp⟩; rw [HWL.out] at hrp ⊢; have HRP := Lib.hid hrp; have HTY := Lib.hid hty; have HGP := Lib.hid hgp; clear hrp hty hgp)
  go_cut [] from 89 to 101 (fun wx => TkS w tp lv mb rb xb A n c bs (wordsR bs wf y5 n5 e5 s.ts).1 (wordsR bs wf y5 n5 e5 s.ts).2.1 (wordsR bs wf y5 n5 e5 s.ts).2.2.1 (wordsR bs wf y5 n5 e5 s.ts).2.2.2 wx)
  case first =>
    go_wp2_with fail
    go_loopw [89] (fun i wr => ∃ (j : Nat), i = .int .i64 (j : Int) ∧ j ≤ wl ∧ TkS w tp lv mb rb xb A n c bs (wordsR bs (wf.take j) y5 n5 e5 s.ts).1 (wordsR bs (wf.take j) y5 n5 e5 s.ts).2.1 (wordsR bs (wf.take j) y5 n5 e5 s.ts).2.2.1 (wordsR bs (wf.take j) y5 n5 e5 s.ts).2.2.2 wr ∧ RdV 1 wr Bp wl (ptrs xb wf) ∧ RowKit.Hid (∀ ad, Bp = some ad → ∃ cs T fr, wr.heap[ad.block]? = some (.cells cs T fr) ∧ T ≠ 117 ∧ T ≠ 9)) (fun i _ => wl - (intOf i).toNat)
    case atStart => exact ⟨0, rfl, Nat.zero_le _, HT5.out.keep HGP.out, HRP.out, HTY.out⟩
    case round =>
      obtain ⟨j, rfl, hj, hTj, hrp, HTYJ⟩ := hrel
      by_cases hlt : j < wl
      · obtain ⟨pb, po, hBe, hcells⟩ := hrp.cells (by omega)
        obtain ⟨f, hf⟩ : ∃ f, wf[j]? = some f := ⟨_, List.getElem?_eq_getElem (by rw [HWL.out]; exact hlt)⟩
        have hpc : wr.cell? ⟨pb, po + j, none⟩ = some (.pointer (some ⟨xb, f, none⟩)) := hcells j _ (by simp [hf])
        have hf4 := HWM.out f (List.mem_of_getElem? hf)
        have hf12 : f < 12 := by omega
        have hlen := wordsR_len HBYT.out HBL.out (wf.take j) y5 n5 e5 s.ts HT5.out.rdr.a0 HT5.out.rdr.a1
        have hlj : (wf.take j).length ≤ 4 := by rw [List.length_take, HWL.out]; omega
        obtain ⟨⟨y, a, e, us⟩, hy⟩ : ∃ r, wordsR bs (wf.take j) y5 n5 e5 s.ts = r := ⟨_, rfl⟩
        rw [hy] at hTj hlen
        dsimp only at hTj hlen
        have hsj := hTj.textC HBL.out HAT.out (by have := HFEW.out; omega)
        obtain ⟨⟨v, a2, ee2, us2⟩, hv⟩ : ∃ r, textR us bs a e = r := ⟨_, rfl⟩
        rw [hv] at hsj
        dsimp only at hsj
        have hap := ptrs_ap hTj hrp HWL.out (by omega)
        have hcp : wr.cell? ⟨p, 0, none⟩ = some (.pointer (some ⟨tp, 0, none⟩)) := cell_of_heap (hTj.chg.by_ HCELLS.out HAP.out.2.1) rfl
        have HTJ := Lib.hid hTj
        have HSJ := Lib.hid hsj
        have HY := Lib.hid hy
        have HV := Lib.hid hv
        have HF := Lib.hid hf
        have HRPJ := Lib.hid hrp
        have HAPJ := Lib.hid hap
        have HF4 := Lib.hid hf4
        subst hBe
        clear hTj hsj hy hv hf hrp hap hcells hf4 hlen hlj
        go_wp2_with (first | (go_at_call 54; refine Calls.mono HSJ.out ?_; rintro e' w6 ⟨rfl, hT6, l6, hl6, hC6⟩; have hx6 := hT6.xbox) | ((with_reducible refine gate_st 9 (.tmp 100) (.tmp 99) rfl ?_); refine st_cell0 rfl rfl rfl rfl rfl rfl hx6 (by kernel_rfl) hf12 ?_; intro W7 hW7 hby7))
        go_roundw
        case rel =>
          have e1 : wordsR bs (wf.take (j + 1)) y5 n5 e5 s.ts = (setT y f v, a2, ee2, us2) := by
            rw [List.take_add_one, HF.out, Option.toList_some, wordsR_snoc, HY.out]
            simp only [wordsR, HV.out]
          have hW8 : W7.heap[xb]? = some (evO (setT y f v) none 0 0) := by
            rw [show evO (setT y f v) none 0 0 = .cells (evA (setT y f v) none 0 0) 34 from rfl, ← setT_box y HF4.out]
            exact hW7
          have hT8 := hT6.stored HAX.out hby7 hW8
          have hnf : ∀ ad, (some ⟨pb, po, none⟩ : Option Addr) = some ad → ¬ (ad.block = rb ∨ ftp tp l6 mb ad.block) := fun ad e hk => by
            rcases hk with hk | hk
            · exact (HAPJ.out ad e).1 hk
            · obtain ⟨cs, T, fr, h1, h2, h3⟩ := HTYJ.out ad e
              exact ftp_nobook hl6 h1 h2 h3 hk
          refine ⟨j + 1, by go_num, by omega, by rw [e1]; exact hT8, (HRPJ.out.chg hC6 (fun _ => hnf)).chg (chg1 hby7) (fun _ ad e => (HAPJ.out ad e).2), fun ad e => ?_⟩
          obtain ⟨cs, T, fr, h1, h2, h3⟩ := HTYJ.out ad e
          exact ⟨cs, T, fr, (chg1 hby7).by_ (hC6.by_ h1 (hnf ad e)) (HAPJ.out ad e).2, h2, h3⟩
        case measure => simp [intOf]; omega
      · have he : wf.take j = wf := List.take_of_length_le (by rw [HWL.out]; omega)
        rw [he] at hTj
        have HTJ := Lib.hid hTj
        clear hTj hrp
        go_wp2_with fail
        go_meet
        exact HTJ.out
  case rest =>
  have hki := wordsR_ki bs wf y5 n5 e5 s.ts
  have hlen := wordsR_len HBYT.out HBL.out wf y5 n5 e5 s.ts HT5.out.rdr.a0 HT5.out.rdr.a1
  rw [HWL.out] at hlen
  obtain ⟨⟨y6, n6, e6, us6⟩, hq6⟩ : ∃ r, wordsR bs wf y5 n5 e5 s.ts = r := ⟨_, rfl⟩
  rw [hq6] at hcut hki hlen
  dsimp only at hcut hki hlen
  rw [hk5, hs5, hse5] at hki
  obtain ⟨hk6, hse6, hti6, hs6⟩ := hki
  rw [← hti6] at hti5
  obtain ⟨W6, hW6⟩ : ∃ W6, W6 = wc := ⟨_, rfl⟩
  subst hW6
  have hl6 : us6.length ≤ 60 * k + 4 := by have := HFEW.out; omega
  have hz6 : takeB s bs at_ = takeH s bs more y6 n6 e6 us6 := by
    rw [HTK5.out]
    unfold takeW
    rw [hk5, HWF.out, hq6]
  have HT6 := Lib.hid hcut
  have HTK6 := Lib.hid hz6
  clear hcut hz6 hlen hq6 HT5 HTK5 HRP HTY HGP HEN HWM hk5 hs5 hse5 hti6
  have c0 : W6.cell? ⟨xb, 0, none⟩ = some (.int .i64 k1) := by rw [← hk6]; exact cell_of_heap HT6.out.xbox rfl
  go_upto_block 7 with fail
  go_cut [] from 102 to 121 (fun wx => ∃ y a e us H m d, TkF w tp lv mb rb xb A n c bs y H m d a e us wx ∧ takeB s bs at_ = finH s more y a e us ∧ us.length ≤ 60 * (k + 1) ∧ y.hs.length ≤ 25)
  case first =>
    by_cases hkL : isL k1 = true
    case neg =>
      have hk0 : isL k1 = false := by simpa using hkL
      have hz : takeB s bs at_ = finH s more y6 n6 e6 us6 := by
        rw [HTK6.out]
        unfold takeH finH
        simp [hk6, hk0]
      have h3 : k1 ≠ 1 ∧ k1 ≠ 2 ∧ k1 ≠ 3 := by simpa [isL] using hk0
      obtain ⟨h1', h2', h3'⟩ := h3
      have d1 : (k1 == 1) = false := by simpa using h1'
      have d2 : (k1 == 2) = false := by simpa using h2'
      have d3 : (k1 == 3) = false := by simpa using h3'
      have f1 : decide (k1 = 1) = false := by simpa using h1'
      have f2 : decide (k1 = 2) = false := by simpa using h2'
      have f3 : decide (k1 = 3) = false := by simpa using h3'
      have HZ := Lib.hid hz
      clear hkL hk0 hz
      go_wp2_with fail
      go_meet
      exact ⟨y6, n6, e6, us6, none, 0, 0, ⟨HT6.out.rdr, HT6.out.xbox, by rw [hs6]; exact LstF.nil _ _, HT6.out.tab, HT6.out.chg, HT6.out.r0, HT6.out.x0⟩, HZ.out, by omega, by rw [hs6]; simp⟩
    case pos =>
      have h123 : k1 = 1 ∨ k1 = 2 ∨ k1 = 3 := by simpa [isL] using hkL
      obtain ⟨b3, hb3⟩ : ∃ b3, decide (k1 = 3) = b3 := ⟨_, rfl⟩
      obtain ⟨⟨l, nx, e, us⟩, hh⟩ : ∃ r, headR us6 bs n6 e6 (s.L se b3) = r := ⟨_, rfl⟩
      have hbd := headR_bd HBYT.out HBL.out us6 e6 (s.L se b3) HT6.out.rdr.a0 HT6.out.rdr.a1
      have hl25 := headR_25 HBYT.out us6 n6 e6 (s.L se b3)
      rw [hh] at hbd hl25
      dsimp only at hbd hl25
      have hz : takeB s bs at_ = finH s more { y6 with hs := if e = 0 then l else [] } nx e us := by
        rw [HTK6.out]
        unfold takeH finH
        simp only [hk6, hkL, if_true, hse6, hb3, hh]
      obtain ⟨y7, hy7⟩ : ∃ y7 : Ev, { y6 with hs := if e = 0 then l else [] } = y7 := ⟨_, rfl⟩
      have hy25 : y7.hs.length ≤ 25 := by
        rw [← hy7]
        dsimp only
        split
        · exact hl25
        · simp
      rw [hy7] at hz
      have HY7 := Lib.hid hy7
      clear hy7 hl25
      have he6 : e6 ≠ 0 → e ≠ 0 := fun h => by
        have : headR us6 bs n6 e6 (s.L se b3) = ([], n6, e6, us6) := by simp [headR, h]
        rw [this] at hh
        simp only [Prod.mk.injEq] at hh
        omega
      obtain ⟨l6, hT6t, hf6⟩ := HT6.out.tab
      have hof := fun (u : World) => of_any y6 none 0 0 u
      rw [hse6, hk6, hb3] at hof
      have hcells6 := HT6.out.chg.by_ HCELLS.out HAP.out.2.1
      have hplt : p < w.heap.size := HB.out.lt (.inl rfl)
      have hllt : lb < w.heap.size := HB.out.lt (.inr (.inl rfl))
      have hpF : ¬ (p = rb ∨ p = xb ∨ ftp tp l6 mb p) := fun h => by
        have r0 := HT6.out.r0
        have x0 := HT6.out.x0
        rcases h with h | h | h
        · omega
        · omega
        · exact ftp_nobook hT6t hcells6 (by decide) (by decide) h
      have hnoH : ∀ k cs fr, w.heap[k]? = some (.cells cs 124 fr) → ¬ ftp tp lv mb k := fun k cs fr h => ftp_nobook HB.out.tab h (by decide) (by decide)
      have hM6 : MapL W6 lb k s.L := HB.out.map.chg HT6.out.chg HAP.out.2.2 hnoH
      have hlF : ¬ (lb = rb ∨ lb = xb ∨ ftp tp l6 mb lb) := fun h => by
        have r0 := HT6.out.r0
        have x0 := HT6.out.x0
        obtain ⟨es, cc, hm⟩ := hM6.isMap
        rcases h with h | h | h
        · omega
        · omega
        · exact ftp_nomap hT6t hm HB.out.ne h
      have hHF : ∀ k cs fr, W6.heap[k]? = some (.cells cs 124 fr) → ¬ (k = rb ∨ k = xb ∨ ftp tp l6 mb k) := fun k cs fr h hk => by
        rcases hk with hk | hk | hk
        · rw [hk, HT6.out.rdr.box] at h
          simp only [Option.some.injEq, Obj.cells.injEq] at h
          exact absurd h.2.1 (by decide)
        · rw [hk, HT6.out.xbox] at h
          simp only [Option.some.injEq, Obj.cells.injEq] at h
          exact absurd h.2.1 (by decide)
        · exact ftp_nobook hT6t h (by decide) (by decide) hk
      have hcp : ∀ u, Chg (fun b => b = rb ∨ b = xb ∨ ftp tp l6 mb b) W6 u → u.cell? ⟨p, 0, none⟩ = some (.pointer (some ⟨tp, 0, none⟩)) ∧ u.cell? ⟨p, 2, none⟩ = some (.map (some lb)) := fun u hu => ⟨cell_of_heap (hu.by_ hcells6 hpF) rfl, cell_of_heap (hu.by_ hcells6 hpF) rfl⟩
      have hmu : ∀ u, Chg (fun b => b = rb ∨ b = xb ∨ ftp tp l6 mb b) W6 u → MapL u lb k s.L := fun u hu => hM6.chg hu hlF hHF
      have hsz6 := HT6.out.chg.size
      have hrbl : rb < W6.heap.size := (Array.getElem?_eq_some_iff.1 HT6.out.rdr.box).1
      have hxbl : xb < W6.heap.size := (Array.getElem?_eq_some_iff.1 HT6.out.xbox).1
      have hAt6 : 0 < n → ∀ ad, A = some ad → ¬ ftp tp l6 mb ad.block := fun h0 ad e2 hk => by
        have := HAT.out h0 ad e2
        rcases hf6 _ hk with h3 | h3
        · exact this.1 h3
        · omega
      have hne := HT6.out.ne
      have hcall : ∀ (u : World) (Aw : Option Addr) (nw cw : Nat), TabI u tp l6 mb us6 → RdI u rb A n c bs n6 e6 → LstI u Aw nw cw (s.L se b3) → Calls Try.prog 55 #[.pointer (some ⟨rb, 0, none⟩), .pointer (some ⟨tp, 0, none⟩), .slice Aw nw cw] u fun e' w' => ∃ v, e' = .returned v ∧ (e6 = 0 → HdR u.heap.size l e v w') ∧ (e6 ≠ 0 → v = .slice none 0 0) ∧ TxQ u rb A n c bs nx e tp l6 mb us w' :=
        fun u Aw nw cw hTu hRu hLu => headers_any rb A n c bs n6 e6 nx e l (s.L se b3) Aw nw cw tp l6 mb us6 us u hRu hTu hLu (ftp_nobook hTu hRu.box (by decide) (by decide)) hAt6 (by omega) hh hbd.1 hbd.2.1
      have hS : TwoZ (G1k rb xb tp l6 mb) (G2k xb) (fun u => TabI u tp l6 mb us6 ∧ RdI u rb A n c bs n6 e6) (fun u => u.heap[xb]? = some (evO y6 none 0 0)) (fun u => Chg (fun b => b = rb ∨ b = xb ∨ ftp tp l6 mb b) W6 u) :=
        ⟨fun u u' h hg => h.tr (Chg.of hg), fun u u' h hg => h.tr (hg.1.mono (fun b e => .inl (e.elim .inl (fun e => .inr (.inr e))))), fun u u' h hg => h.tr ((chg1 hg).mono (fun b e => .inl (.inr (.inl e)))), fun u u' h hg => ⟨h.1.keep hg, h.2.keep hg⟩, fun u u' h hg => heap_keep hg h, fun u u' h hg => hg.2.trans h⟩
      have HZ := Lib.hid hz
      have HE6 := Lib.hid he6
      have HOF := Lib.hid hof
      have HCP := Lib.hid hcp
      have HMU := Lib.hid hmu
      have HCALL := Lib.hid hcall
      have HF6 := Lib.hid hf6
      have HT6T := Lib.hid hT6t
      have HSZ6 := Lib.hid hsz6
      obtain ⟨xc, hxc⟩ : ∃ xc : Array Value, evA y6 none 0 0 = xc := ⟨_, rfl⟩
      have hxs : xc.size = 12 := by rw [← hxc]; rfl
      have hfin : ∀ (u W' : World) (v : Value), Chg (fun b => b = rb ∨ b = xb ∨ ftp tp l6 mb b) W6 u → HdQ w W6 tp lv mb rb A n c bs l e6 nx e us v u → W'.heap[xb]? = some (.cells (xc.setIfInBounds 5 v) 34) → u.grownBy W' (some xb) → u.heap[xb]? = some (.cells xc 34) → ∃ H m d, TkF w tp lv mb rb xb A n c bs y7 H m d nx e us W' := by
        intro u W' v hu ⟨q1, q2, q3, q4⟩ hW' hby hxu
        rw [← HY7.out]
        have hl : LstF w.heap.size (if e = 0 then l else []) v u := by
          by_cases h0e : e6 = 0
          · have hr := q1 h0e
            by_cases h1e : e = 0
            · rw [if_pos h1e]
              obtain ⟨A', n', c', g1, g2, g3, g4, g5, g6, g7⟩ := hr.1 h1e
              exact ⟨A', n', c', g1, g2, g3, g4, g5, g6, g7.mono HSZ6.out⟩
            · rw [if_neg h1e, hr.2 h1e]; exact LstF.nil _ _
          · rw [if_neg (HE6.out h0e), q2 h0e]; exact LstF.nil _ _
        obtain ⟨H, m, d, rfl, g2, g3, g4, g5, g6, g7⟩ := hl
        have hc1 := chg1 hby
        have hHx : ∀ ad, H = some ad → ¬ (ad.block = xb) := g5.ne hxu (by decide)
        refine ⟨H, m, d, ⟨hc1.by_ q3.box (fun e => hne e), q3.rd.chg hc1 (fun h ad e => HAX.out h ad e), q3.byt, q3.le, q3.cap, q3.few, q3.ap, q3.a0, q3.a1⟩, ?_, ⟨H, m, d, rfl, g2.chg hc1 (fun _ => hHx), g3, g4, g5.chg hc1 hHx, g6, g7⟩, q4.chg hc1 (fun l hl k hk e => ftp_nobook hl hxu (by decide) (by decide) (e ▸ hk)), ?_, HT6.out.r0, HT6.out.x0⟩
        · rw [hW', ← hxc]; rfl
        · refine (HT6.out.chg.tr (hu.mono (fun b hb => ?_))).tr (hc1.mono (fun b e => .inr (by rw [e]; exact HT6.out.x0)))
          rcases hb with hb | hb | hb
          · exact .inr (by rw [hb]; exact HT6.out.r0)
          · exact .inr (by rw [hb]; exact HT6.out.x0)
          · exact HF6.out b hb
      have HFIN := Lib.hid hfin
      have hx0 := HT6.out.xbox
      simp only [evO, hxc] at hx0 hS
      simp only [evV, hxc] at hof
      have HOF2 := Lib.hid hof
      have hX0 : TabI W6 tp l6 mb us6 ∧ RdI W6 rb A n c bs n6 e6 := ⟨hT6t, HT6.out.rdr⟩
      have hse0 : -9223372036854775808 ≤ se ∧ se ≤ 9223372036854775807 := by omega
      clear hz he6 hof hcp hmu hcall hf6 hT6t hsz6 hfin hcells6 hplt hllt hpF hnoH hM6 hlF hHF hAt6 hb3 hh hkL c0 hxc
      rcases h123 with rfl | rfl | rfl
      all_goals
        go_upto_region 33 with fail
        refine region_twoz 12 14 hS (Chg.of (Grew.rf _)) hX0 hx0 [(12, 11), (14, 11), (14, 12)] [[], [], [(1, 109)], [(2, 110)], [(3, 111)], [], [(5, 113)], [(6, 114)], [(7, 115)], [], [(9, 117)], [(8, 116), (10, 118)], [(0, 108), (4, 112), (11, 119)], [], [(12, 120), (13, 121)]] [(0, 108), (1, 109), (2, 110), (3, 111), (4, 112), (5, 113), (6, 114), (7, 115), (8, 116), (9, 117), (10, 118), (11, 119), (12, 120), (13, 121)] (fun
          | 0 => .eqv (.pointer (some ⟨rb, 0, none⟩)) | 1 => .eqv (.pointer (some ⟨p, 0, none⟩)) | 2 => .eqv (.pointer (some ⟨p, 0, none⟩)) | 3 => .eqv (.pointer (some ⟨p, 0, none⟩)) | 4 => .eqv (.pointer (some ⟨tp, 0, none⟩)) | 5 => .eqv (.pointer (some ⟨p, 0, none⟩)) | 6 => .eqv (.pointer (some ⟨p, 0, none⟩)) | 7 => .eqv (.pointer (some ⟨p, 2, none⟩)) | 8 => .eqv (.map (some lb)) | 9 => .eqv (.agg xc) | 10 => .eqv (skV se b3) | 11 => pxLst (s.L se b3) (G1k rb xb tp l6 mb) (G2k xb) | 12 => pxHd w W6 tp lv mb rb A n c bs l e6 nx e us (G1k rb xb tp l6 mb) (G2k xb) | 13 => .eqv (.pointer (some ⟨xb, 5, none⟩)) | 14 => pxEnd w tp lv mb rb xb A n c bs y7 nx e us (G1k rb xb tp l6 mb) (G2k xb) | _ => .any) rfl (by kernel_rfl) (by kernel_rfl) ?_ ?_
        · refine ⟨fun u hu hx => ?_, fun u hu hx => ?_, fun u hu hx => ?_, fun u hu hx => ?_, fun u hu hx => ?_, fun u hu hx => ?_, fun u hu hx => ?_, fun u hu hx => ?_, fun u hu hx => ?_, fun u hu hx => ?_, fun u hu hx => ?_, fun u hu hx => ?_, fun u hu hx => ?_, fun u hu hx => ?_, fun u hu hx => ?_, trivial⟩
          · refine StepGoal.nil ?_
            go_wp2
            exact ⟨rfl, rfl, Grew.rf _, rfl⟩
          · refine StepGoal.nil ?_
            go_wp2
            exact ⟨rfl, rfl, Grew.rf _, rfl⟩
          · rintro _ rfl
            refine StepGoal.nil ?_
            simp only [Act.put, List.setIfInBounds_toArray, List.set_cons_zero, List.set_cons_succ]
            go_wp2
            exact ⟨rfl, rfl, Grew.rf _, rfl⟩
          · rintro _ rfl
            refine StepGoal.nil ?_
            simp only [Act.put, List.setIfInBounds_toArray, List.set_cons_zero, List.set_cons_succ]
            go_wp2
            exact ⟨rfl, rfl, Grew.rf _, rfl⟩
          · rintro _ rfl
            have hce := (HCP.out u hu).1; clear hx
            refine StepGoal.nil ?_
            simp only [Act.put, List.setIfInBounds_toArray, List.set_cons_zero, List.set_cons_succ]
            go_wp2
            exact ⟨rfl, rfl, Grew.rf _, rfl⟩
          · refine StepGoal.nil ?_
            go_wp2
            exact ⟨rfl, rfl, Grew.rf _, rfl⟩
          · rintro _ rfl
            refine StepGoal.nil ?_
            simp only [Act.put, List.setIfInBounds_toArray, List.set_cons_zero, List.set_cons_succ]
            go_wp2
            exact ⟨rfl, rfl, Grew.rf _, rfl⟩
          · rintro _ rfl
            refine StepGoal.nil ?_
            simp only [Act.put, List.setIfInBounds_toArray, List.set_cons_zero, List.set_cons_succ]
            go_wp2
            exact ⟨rfl, rfl, Grew.rf _, rfl⟩
          · rintro _ rfl
            have hce := (HCP.out u hu).2; clear hx
            refine StepGoal.nil ?_
            simp only [Act.put, List.setIfInBounds_toArray, List.set_cons_zero, List.set_cons_succ]
            go_wp2
            exact ⟨rfl, rfl, Grew.rf _, rfl⟩
          · have hxz : u.heap[xb]? = some (.cells xc 34) := hx
            refine StepGoal.nil ?_
            go_wp2_with (refine ld_row (.inl rfl) rfl rfl hxz rfl Try.underlying34 (by rw [hxs]; kernel_rfl) ?_)
            exact ⟨rfl, rfl, Grew.rf _, rfl⟩
          · rintro _ rfl
            clear hx
            refine StepGoal.nil ?_
            simp only [Act.put, List.setIfInBounds_toArray, List.set_cons_zero, List.set_cons_succ]
            go_wp2_with (go_at_call 45; refine Calls.mono (HOF2.out _) ?_; rintro e w3 ⟨rfl, hg3⟩)
            exact ⟨rfl, rfl, hg3, rfl⟩
          · rintro _ rfl _ rfl
            clear hx; obtain ⟨Aw, nw, cw, hrun, hli⟩ := (HMU.out u hu).look se b3 hse0.1 hse0.2
            refine StepGoal.nil ?_
            simp only [Act.put, List.setIfInBounds_toArray, List.set_cons_zero, List.set_cons_succ]
            go_wp2
            exact ⟨rfl, rfl, Grew.rf _, Aw, nw, cw, rfl, hli⟩
          · rintro _ rfl _ rfl v119 h119
            have hxz : (TabI u tp l6 mb us6 ∧ RdI u rb A n c bs n6 e6) ∧ u.heap[xb]? = some (.cells xc 34) := hx; obtain ⟨Aw, nw, cw, rfl, hli⟩ : ∃ A n c, v119 = .slice A n c ∧ LstI u A n c (s.L se b3) := h119; have HXZ := Lib.hid hxz; have HLI := Lib.hid hli; clear hx hxz hli
            refine StepGoal.nil ?_
            simp only [Act.put, List.setIfInBounds_toArray, List.set_cons_zero, List.set_cons_succ]
            go_wp2_with (go_at_call 55; refine Calls.mono (HCALL.out u Aw nw cw HXZ.out.1.1 HXZ.out.1.2 HLI.out) ?_; rintro e' w7 ⟨v7, rfl, q1, q2, hQ⟩)
            have hsu := hu.size; have hxu := HXZ.out.2; obtain ⟨l7, hl7, hg7⟩ := hQ.tab; have hnx : ¬ (xb = rb ∨ ftp tp l6 mb xb) := fun h => h.elim (fun h => hne h.symm) (fun h => ftp_nobook HXZ.out.1.1 hxu (by decide) (by decide) h); exact ⟨rfl, rfl, ⟨hQ.chg, hQ.chg.block xb (Array.getElem?_eq_some_iff.1 hxu).1 hnx⟩, fun h0 => ⟨fun h1 => by obtain ⟨A', n', c', g1, g2, g3, g4, g5, g6, g7⟩ := (q1 h0).1 h1; exact ⟨A', n', c', g1, g2, g3, g4, g5, g6, g7.mono hsu⟩, (q1 h0).2⟩, q2, hQ.rdr, l7, hl7, fun k hk => by rcases hg7 k hk with h | h; exact HF6.out k h; exact .inr (Nat.le_trans (Nat.le_trans HSZ6.out hsu) h)⟩
          · refine StepGoal.nil ?_
            go_wp2
            exact ⟨rfl, rfl, Grew.rf _, rfl⟩
          · rintro v120 h120 _ rfl
            have hxz : u.heap[xb]? = some (.cells xc 34) := hx; have hq : HdQ w W6 tp lv mb rb A n c bs l e6 nx e us v120 u := h120; have hv1 : v120.oneCell' = true := by obtain ⟨q1, q2, _, _⟩ := hq; by_cases h0 : e6 = 0; exact (by by_cases h1 : e = 0; exact (by obtain ⟨A', n', c', rfl, _⟩ := (q1 h0).1 h1; rfl); rw [(q1 h0).2 h1]; rfl); rw [q2 h0]; rfl
            refine StepGoal.nil ?_
            simp only [Act.put, List.setIfInBounds_toArray, List.set_cons_zero, List.set_cons_succ]
            refine st_cell0 rfl rfl rfl rfl rfl hv1 hxz (by kernel_rfl) (by rw [hxs]; decide) ?_; intro W7 hW7 hby7
            exact ⟨rfl, rfl, hby7, HFIN.out u W7 v120 hu hq hW7 hby7 hxz⟩
        · intro u hu hall
          rintro _ rfl _ rfl _ rfl _ rfl _ rfl _ rfl _ rfl _ rfl _ rfl _ rfl _ rfl v119 _ v120 _ _ rfl
          refine StepGoal.nil ?_
          simp only [Act.put, List.setIfInBounds_toArray, List.set_cons_zero, List.set_cons_succ]
          obtain ⟨v14, h14⟩ := hall 14 (by decide)
          have hq : ∃ H m d, TkF w tp lv mb rb xb A n c bs y7 H m d nx e us u := h14
          obtain ⟨H, m, d, hF⟩ := hq
          have HTF := Lib.hid hF
          clear hF h14 hall hS hX0 hx0 hu
          go_wp2_with fail
          go_meet
          exact ⟨_, nx, e, us, H, m, d, HTF.out, HZ.out, by omega, hy25⟩
  case rest =>
  obtain ⟨y, a, e, us, H, m, d, hF, hz, hus, hy25⟩ := hcut
  obtain ⟨W8, hW8⟩ : ∃ W8, W8 = wc := ⟨_, rfl⟩
  subst hW8
  have HF := Lib.hid hF
  have HZ := Lib.hid hz
  have hxb8 := hF.xbox
  have r2 : W8.cell? ⟨rb, 2, none⟩ = some (.int .i64 e) := cell_of_heap hF.rdr.box rfl
  clear hF hz HT6 HTK6 hk6 hse6 hs6 hti5 c0 hl6
  by_cases he : e = 0
  case neg =>
    have hz2 : takeB s bs at_ = (zeroE, 0, e, ⟨us, s.ti, s.L⟩) := by rw [HZ.out]; unfold finH; rw [if_pos he]
    have HZ2 := Lib.hid hz2
    have d0 : (e == 0) = false := by simpa using he
    have dd0 : decide (e = 0) = false := by simpa using he
    clear hz2
    go_wp2_with (first | ((with_reducible refine gate_st 34 (.tmp 6) (.tmp 128) rfl ?_); refine st_row0 rfl rfl rfl rfl rfl hxb8 (by kernel_rfl) rfl (by simp [Value.oneCell']) ?_; intro W9 hW9 hby9))
    refine bodyPost_ret (take_ret rfl rfl rfl hW9 rfl) rfl ?_
    exact HEND.out _ _ us a e e zeroE (HF.out.zero HAX.out hby9 hW9) HZ2.out (Nat.le_trans hus (by omega))
  case pos =>
  subst he
  by_cases hm0 : more < 0
  case pos =>
    have hz2 : takeB s bs at_ = (zeroE, 0, 4, ⟨us, s.ti, s.L⟩) := by rw [HZ.out]; unfold finH; rw [if_neg (by simp), if_pos (.inl hm0)]
    have HZ2 := Lib.hid hz2
    have dm : decide (more < 0) = true := decide_eq_true hm0
    clear hz2
    go_wp2_with (first | ((with_reducible refine gate_st 34 (.tmp 6) (.tmp 139) rfl ?_); refine st_row0 rfl rfl rfl rfl rfl hxb8 (by kernel_rfl) rfl (by simp [Value.oneCell']) ?_; intro W9 hW9 hby9))
    refine bodyPost_ret (take_ret rfl rfl rfl hW9 rfl) rfl ?_
    exact HEND.out _ _ us a 0 4 zeroE (HF.out.zero HAX.out hby9 hW9) HZ2.out (Nat.le_trans hus (by omega))
  case neg =>
  have dm : decide (more < 0) = false := decide_eq_false hm0
  obtain ⟨H', m', d', hve, hrd, hle, hcap, hbk, hnil, hfr⟩ := HF.out.lst
  cases hve
  have hml : m = y.hs.length := hrd.lenH.symm
  have hgd := egood_any y H m d W8 hrd hnil (by omega)
  unfold GoodC at hgd
  obtain ⟨xc, hxc⟩ : ∃ xc : Array Value, evA y H m d = xc := ⟨_, rfl⟩
  have hxs : xc.size = 12 := by rw [← hxc]; rfl
  have hone : xc.all (·.oneCell') = true := by rw [← hxc]; simp [Value.oneCell']
  cases hgb : goodE y with
  | false =>
    rw [hgb] at hgd
    have hz2 : takeB s bs at_ = (zeroE, 0, 4, ⟨us, s.ti, s.L⟩) := by rw [HZ.out]; unfold finH; rw [if_neg (by simp), if_pos (.inr hgb)]
    have HZ2 := Lib.hid hz2
    simp only [evV, hxc] at hgd
    simp only [evO, hxc] at hxb8
    have HGD := Lib.hid hgd
    clear hz2 hgd
    go_wp2_with (first | ((with_reducible refine gate_ld' 34 (.tmp 6) rfl ?_); refine ld_row (.inl rfl) rfl rfl hxb8 rfl Try.underlying34 (by rw [hxs]; kernel_rfl) ?_) | (go_at_call 38; refine Calls.mono HGD.out ?_; rintro e' w9 ⟨rfl, hg9⟩; have hx9 := heap_keep hg9 hxb8) | ((with_reducible refine gate_st 34 (.tmp 6) (.tmp 139) rfl ?_); refine st_row0 rfl rfl rfl rfl rfl hx9 (by kernel_rfl) (by rw [hxs]; rfl) (by simp [Value.oneCell']) ?_; intro W9 hW9 hby9))
    refine bodyPost_ret (take_ret rfl rfl rfl hW9 rfl) rfl ?_
    have hF9 : TkF w tp lv mb rb xb A n c bs y H m d a 0 us w9 := ⟨HF.out.rdr.keep hg9, by rw [show evO y H m d = .cells (evA y H m d) 34 from rfl, hxc]; exact hx9, HF.out.lst.keep hg9, HF.out.tab.keep hg9, HF.out.chg.tr (Chg.of hg9), HF.out.r0, HF.out.x0⟩
    exact HEND.out _ _ us a 0 4 zeroE (hF9.zero HAX.out hby9 hW9) HZ2.out (Nat.le_trans hus (by omega))
  | true =>
    rw [hgb] at hgd
    have hG := goodP_of hgb
    have hz2 : takeB s bs at_ = (y, a, 0, toldB s us y) := by rw [HZ.out]; unfold finH; rw [if_neg (by simp), if_neg (by rw [hgb]; simp [hm0])]
    have HZ2 := Lib.hid hz2
    -- told
    obtain ⟨l8, hT8, hf8⟩ := HF.out.tab
    have hnoH : ∀ k cs fr, w.heap[k]? = some (.cells cs 124 fr) → ¬ ftp tp lv mb k := fun k cs fr h => ftp_nobook HB.out.tab h (by decide) (by decide)
    have hB8 : BookI W8 p tp l8 mb lb (k + 1) ⟨us, s.ti, s.L⟩ := ⟨HF.out.chg.by_ HB.out.cells HAP.out.2.1, hT8, (HB.out.map.chg HF.out.chg HAP.out.2.2 hnoH).mono (by omega), HB.out.ne, HB.out.t0, HB.out.t1, hus, by omega⟩
    have hplt : p < w.heap.size := HB.out.lt (.inl rfl)
    have hllt : lb < w.heap.size := HB.out.lt (.inr (.inl rfl))
    have htd : ∀ u, Grew W8 u → Calls Try.prog 46 #[.pointer (some ⟨p, 0, none⟩), evV y H m d] u fun e w' => e = .returned (.tuple #[]) ∧ ToldQ u p tp l8 mb lb (k + 1) (toldB ⟨us, s.ti, s.L⟩ us y) w' := fun u hu =>
      told_any p tp l8 mb lb (k + 1) ⟨us, s.ti, s.L⟩ y H m d u (hB8.keep hu) (hrd.keep hu) hnil (by omega) hG.se.1 hG.se.2 hG.ti.1 hG.ti.2 (fun h0 ad e2 hk => by
        have h1 := hfr ad e2
        rcases hk with hk | hk | hk
        · omega
        · omega
        · exact hbk.tab hT8 e2 hk) (by omega)
    simp only [evV, hxc] at hgd htd
    simp only [evO, hxc] at hxb8
    have HGD := Lib.hid hgd
    have HTD := Lib.hid htd
    have HT8 := Lib.hid hT8
    have HF8 := Lib.hid hf8
    have HRDH := Lib.hid hrd
    have HBK := Lib.hid hbk
    have HFR := Lib.hid hfr
    clear hz2 hgd htd hG hT8 hf8 hnoH hB8 hrd hbk hfr HEND r2
    have r2 : W8.cell? ⟨rb, 2, none⟩ = some (.int .i64 0) := cell_of_heap HF.out.rdr.box rfl
    go_upto_region 40 with (first | ((with_reducible refine gate_ld' 34 (.tmp 6) rfl ?_); refine ld_row (.inl rfl) rfl rfl hxb8 rfl Try.underlying34 (by rw [hxs]; kernel_rfl) ?_) | ((with_reducible refine gate_ld' 34 (.tmp 6) rfl ?_); refine ld_row (.inl rfl) rfl rfl hx9 rfl Try.underlying34 (by rw [hxs]; kernel_rfl) ?_) | (go_at_call 38; refine Calls.mono HGD.out ?_; rintro e' w9 ⟨rfl, hg9⟩; have hx9 := heap_keep hg9 hxb8) | (go_at_call 46; refine Calls.mono (HTD.out _ hg9) ?_; rintro e' w10 ⟨rfl, hQ⟩))
    have hnb : ∀ b, w.heap.size ≤ b → ¬ ftd p lb b := fun b hb hk => by rcases hk with hk | hk <;> omega
    have hx10 := hQ.chg.by_ hx9 (hnb _ HF.out.x0)
    have hr10 := hQ.chg.by_ (heap_keep hg9 HF.out.rdr.box) (hnb _ HF.out.r0)
    have hlst10 : LstF w.heap.size y.hs (.slice H m d) w10 := (HF.out.lst.keep hg9).chg hQ.chg hnb
    have HX10 := Lib.hid hx10
    have HR10 := Lib.hid hr10
    have HQ := Lib.hid hQ
    have HL10 := Lib.hid hlst10
    have HG9 := Lib.hid hg9
    clear hx10 hr10 hQ hlst10 hx9 hxb8 hg9 r2 HGD HTD
    have hne : rb ≠ xb := fun e => by
      have h1 := HR10.out
      rw [e, HX10.out] at h1
      simp only [Option.some.injEq, Obj.cells.injEq] at h1
      exact absurd h1.2.1 (by decide)
    refine region_inv (fun u => u.heap[xb]? = some (.cells xc 34) ∧ Chg (fun b => b = xb) w10 u) ⟨HX10.out, Chg.of (Grew.rf w10).dr⟩ [[], [], [(1, 144)], [(2, 145)], [(3, 146)], [(0, 143)], [(4, 147)], []] [(0, 143), (1, 144), (2, 145), (3, 146), (4, 147), (6, 7), (7, 8)] (fun
      | 0 => .eqv (.agg xc) | 1 => .eqv (.pointer (some ⟨rb, 0, none⟩)) | 2 => .eqv (.pointer (some ⟨rb, 0, none⟩)) | 3 => .eqv (.pointer (some ⟨rb, 1, none⟩)) | 4 => .eqv (.int .i64 a) | 5 => .any | 6 => .eqv (.int .i64 a) | 7 => .eqv (Value.int IntKind.i64 0) | _ => .any) (by kernel_rfl) ?_ ?_
    · refine ⟨fun u hu => ?_, fun u hu => ?_, fun u hu => ?_, fun u hu => ?_, fun u hu => ?_, fun u hu => ?_, fun u hu => ?_, fun u hu => ?_, trivial⟩
      · refine StepGoal.nil ?_
        go_wp2_with (refine ld_row (.inl rfl) rfl rfl hu.1 rfl Try.underlying34 (by rw [hxs]; kernel_rfl) ?_)
        exact ⟨rfl, rfl, fun h => h, rfl⟩
      · refine StepGoal.nil ?_
        go_wp2
        exact ⟨rfl, rfl, fun h => h, rfl⟩
      · rintro _ rfl
        refine StepGoal.nil ?_
        simp only [Act.put, List.setIfInBounds_toArray, List.set_cons_zero, List.set_cons_succ]
        go_wp2
        exact ⟨rfl, rfl, fun h => h, rfl⟩
      · rintro _ rfl
        refine StepGoal.nil ?_
        simp only [Act.put, List.setIfInBounds_toArray, List.set_cons_zero, List.set_cons_succ]
        go_wp2
        exact ⟨rfl, rfl, fun h => h, rfl⟩
      · rintro _ rfl
        have hce : u.cell? ⟨rb, 1, none⟩ = some (.int .i64 a) := cell_of_heap (hu.2.by_ HR10.out hne) rfl
        refine StepGoal.nil ?_
        simp only [Act.put, List.setIfInBounds_toArray, List.set_cons_zero, List.set_cons_succ]
        go_wp2
        exact ⟨rfl, rfl, fun h => h, rfl⟩
      · rintro _ rfl
        refine StepGoal.nil ?_
        simp only [Act.put, List.setIfInBounds_toArray, List.set_cons_zero, List.set_cons_succ]
        refine st_row0 rfl rfl rfl rfl rfl hu.1 (by rw [hxs]; kernel_rfl) rfl hone ?_; intro W11 hW11 hby11
        exact ⟨rfl, rfl, fun h => ⟨hW11, h.2.tr ((chg1 hby11).mono (fun b e => .inl e))⟩, trivial⟩
      · rintro _ rfl
        refine StepGoal.nil ?_
        simp only [Act.put, List.setIfInBounds_toArray, List.set_cons_zero, List.set_cons_succ]
        go_wp2
        exact ⟨rfl, rfl, fun h => h, rfl⟩
      · refine StepGoal.nil ?_
        go_wp2
        exact ⟨rfl, rfl, fun h => h, rfl⟩
    · intro u hu
      rintro _ rfl _ rfl _ rfl _ rfl _ rfl _ rfl _ rfl
      refine StepGoal.nil ?_
      simp only [Act.put, List.setIfInBounds_toArray, List.set_cons_zero, List.set_cons_succ]
      have HU := Lib.hid hu
      clear hu
      go_wp2_with fail
      refine bodyPost_ret (take_ret rfl rfl rfl HU.out.1 hxs) rfl ?_
      rw [HZ2.out, ← hxc]
      have hcx := HU.out.2
      have hlst : LstF w.heap.size y.hs (.slice H m d) u := by
        obtain ⟨H2, m2, d2, hv, g2, g3, g4, g5, g6, g7⟩ := HL10.out
        cases hv
        have hHx := g5.ne HX10.out (by decide)
        exact ⟨H, m, d, rfl, g2.chg hcx (fun _ => hHx), g3, g4, g5.chg hcx hHx, g6, g7⟩
      have hnx : ∀ b, ftb p tp l8 mb lb b → ¬ (b = xb) := fun b hb e => by
        subst e
        have x0 := HF.out.x0
        rcases hb with hb | hb | hb
        · omega
        · omega
        · exact ftp_nobook HQ.out.book.tab HX10.out (by decide) (by decide) hb
      have hhx : ∀ k cs fr, w10.heap[k]? = some (.cells cs 124 fr) → ¬ (k = xb) := fun k cs fr h e => by
        rw [e, HX10.out] at h
        simp only [Option.some.injEq, Obj.cells.injEq] at h
        exact absurd h.2.1 (by decide)
      refine ⟨H, m, d, rfl, hlst, ⟨l8, HQ.out.book.chg hcx hnx hhx, fun b hb => ?_⟩, ?_⟩
      · rcases hb with hb | hb | hb
        · exact .inl (.inl hb)
        · exact .inl (.inr (.inl hb))
        · exact (HF8.out b hb).imp (fun h => .inr (.inr h)) (fun h => h)
      · refine (((HF.out.chg.mono (fun b h => .inr (.inr h))).tr (Chg.of HG9.out)).tr (HQ.out.chg.mono (fun b h => .inl (h.elim .inl (fun h => .inr (.inl h)))))).tr (hcx.mono (fun b e => .inr (by rw [e]; exact HF.out.x0)))
end Go.Proofs.Ytbkcpgaicoagfaa
