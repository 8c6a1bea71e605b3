/- The reader: headers. -/
import Derived.Test.YtbkcpgaicoagfaaEg26
import Derived.Test.YtbkcpgaicoagfaaEg24
set_option linter.unusedVariables false
set_option linter.unusedSimpArgs false
namespace Go.Proofs.Ytbkcpgaicoagfaa
open Go.RowKit

/-- A new list. -/
def LstF (base : Nat) (l : List Hdr) (v : Value) (u : World) : Prop := ∃ A n c, v = .slice A n c ∧ RdH u A n l ∧ n ≤ c ∧ c ≤ 9223372036854775807 ∧ HdB u A ∧ (A = none → n = 0 ∧ c = 0) ∧ FreshA base A
theorem LstF.keep {base : Nat} {l : List Hdr} {v : Value} {u u' : World} (h : LstF base l v u) (hg : Grew u u') : LstF base l v u' := by
  obtain ⟨A, n, c, h1, h2, h3, h4, h5, h6, h7⟩ := h
  exact ⟨A, n, c, h1, h2.keep hg, h3, h4, h5.keep hg, h6, h7⟩
theorem LstF.chg {base : Nat} {l : List Hdr} {v : Value} {u u' : World} {F : Nat → Prop} (h : LstF base l v u) (hg : Chg F u u') (hF : ∀ b, base ≤ b → ¬ F b) : LstF base l v u' := by
  obtain ⟨A, n, c, h1, h2, h3, h4, h5, h6, h7⟩ := h
  exact ⟨A, n, c, h1, h2.chg hg (fun _ ad e => hF _ (h7 ad e)), h3, h4, h5.chg hg (fun ad e => hF _ (h7 ad e)), h6, h7⟩
/-- What a reader's headers hand back. -/
def HdR (base : Nat) (l : List Hdr) (e : Int) (v : Value) (u : World) : Prop := (e = 0 → LstF base l v u) ∧ (e ≠ 0 → v = .slice none 0 0)
theorem HdR.keep {base : Nat} {l : List Hdr} {e : Int} {v : Value} {u u' : World} (h : HdR base l e v u) (hg : Grew u u') : HdR base l e v u' := ⟨fun h0 => (h.1 h0).keep hg, h.2⟩
theorem HdR.set {base : Nat} {l : List Hdr} {e : Int} {v : Value} {u : World} (h : HdR base l e v u) {rb : Nat} (hlt : rb < base) (j : Nat) (x : Value) : HdR base l e v (u.setCell ⟨rb, j, none⟩ x) := ⟨fun h0 => (h.1 h0).chg (setC_chg u rb j x) (fun b hb e => by omega), h.2⟩
def HdT (base : Nat) (l : List Hdr) (nx e : Int) (v : Value) (u : World) : Prop := ∃ v0, v = .tuple #[v0, .int .i64 nx, .int .i64 e] ∧ HdR base l e v0 u
def Pb.hdT {rb : Nat} {G1 : World → World → Prop} (base : Nat) (l : List Hdr) (nx e : Int) (hlt : rb < base) : Pb rb G1 :=
  ⟨HdT base l nx e, none, false, fun _ _ _ ⟨v0, h1, h2⟩ hg => ⟨v0, h1, h2.keep hg⟩, fun h => (by cases h), fun j x _ _ _ ⟨v0, h1, h2⟩ => ⟨v0, h1, h2.set hlt j x⟩⟩
def Pb.hdR {rb : Nat} {G1 : World → World → Prop} (base : Nat) (l : List Hdr) (e : Int) (hlt : rb < base) : Pb rb G1 :=
  ⟨HdR base l e, none, false, fun _ _ _ h hg => h.keep hg, fun h => (by cases h), fun j x _ _ _ h => h.set hlt j x⟩

set_option maxRecDepth 100000 in
set_option maxHeartbeats 3200000 in
theorem headers_any (rb : Nat) (A : Option Addr) (n c : Nat) (bs : List Int) (at_ er nx e : Int) (l was : List Hdr) (Aw : Option Addr) (nw cw : Nat) (tp : Nat) (lv : Value) (mb : Nat) (ts ts' : List ByteArray) (w : World) (hR : RdI w rb A n c bs at_ er) (hT : TabI w tp lv mb ts) (hL : LstI w Aw nw cw was) (hrb : ¬ ftp tp lv mb rb) (hAt : 0 < n → ∀ ad, A = some ad → ¬ ftp tp lv mb ad.block) (hf : ts.length < 900000) (he : headR ts bs at_ er was = (l, nx, e, ts')) (hn0 : -9223372036854775808 ≤ nx) (hn1 : nx ≤ 9223372036854775807) :
    Calls Try.prog 55 #[.pointer (some ⟨rb, 0, none⟩), .pointer (some ⟨tp, 0, none⟩), .slice Aw nw cw] w fun e' w' => ∃ v, e' = .returned v ∧ (er = 0 → HdR w.heap.size l e v w') ∧ (er ≠ 0 → v = .slice none 0 0) ∧ TxQ w rb A n c bs nx e tp lv mb ts' w' := by
  have c2 : w.cell? ⟨rb, 2, none⟩ = some (.int .i64 er) := cell_of_heap hR.box rfl
  have hlt : rb < w.heap.size := (Array.getElem?_eq_some_iff.1 hR.box).1
  have HR := Lib.hid hR
  have HT := Lib.hid hT
  have HL := Lib.hid hL
  clear hR hT hL
  by_cases h0 : er = 0
  · subst h0
    have he' : takeD ts bs at_ was = (l, nx, e, ts') := by simpa [headR] using he
    have hch : ∀ u, Chg (fun b => b = rb ∨ ftp tp lv mb b) w u → Rd u A n bs := fun u hu => HR.out.rd.chg hu (fun h ad e hk => hk.elim (HR.out.ap h ad e) (hAt h ad e))
    have hhb : ∀ ad, Aw = some ad → ¬ (ad.block = rb ∨ ftp tp lv mb ad.block) := fun ad e2 hk => by
      rcases hk with hk | hk
      · exact HL.out.blk.ne HR.out.box (by decide) ad e2 hk
      · exact HL.out.blk.tab HT.out e2 hk
    have hlw : ∀ u, Chg (fun b => b = rb ∨ ftp tp lv mb b) w u → RdH u Aw nw was := fun u hu => HL.out.rd.chg hu (fun h ad e => hhb ad e)
    have htk := fun (u : World) (hr : Rd u A n bs) (hs : RdH u Aw nw was) (ht : TabI u tp lv mb ts) => dtake_any tp lv mb ts A n c bs at_ Aw nw cw was u ht hr hs hAt (fun _ ad e2 h => hhb ad e2 (.inr h)) HR.out.byt HR.out.le HR.out.cap (by have := HR.out.few; omega) (by have := HL.out.few; omega) HL.out.le HL.out.cap (by omega) HR.out.a0 HR.out.a1
    rw [he'] at htk
    have HTK := Lib.hid htk
    have HCH := Lib.hid hch
    have HLW := Lib.hid hlw
    have hbox := HR.out.box
    have HBOX := Lib.hid hbox
    clear he he' htk hch hbox hhb hlw
    go_enter Try.func55, Try.ntmps55
    go_upto_region 2 with fail
    clear c2
    refine region_box rb 106 (rdC A n c at_ 0) [(20, 1, (.int .i64 nx)), (23, 2, (.int .i64 e))] [(9, 1)] 12 (GT6 rb tp lv mb) (fun u => TabI u tp lv mb ts) (fun u => Chg (fun b => b = rb ∨ ftp tp lv mb b) w u) (fun u u' h hg => h.tr (Chg.of hg)) (fun u u' h hg => h.tr (hg.1.mono (fun b e => .inl (.inr e)))) (fun u j x h => h.tr ((setC_chg u rb j x).mono (fun b e => .inl (.inl e)))) (fun u u' h => h.2) (fun u u' h hg => h.keep hg) (Chg.of (Grew.rf w)) HBOX.out HT.out [[], [], [], [(2, 15)], [(3, 16)], [(4, 17)], [], [(6, 19)], [(7, 20)], [(8, 21)], [], [], [(5, 18), (9, 22), (10, 23), (11, 24)], [(12, 25)], [(13, 12)], [(13, 12)], [(13, 12)], [(14, 26)], [(0, 13)], [(18, 29)], [(15, 27), (19, 30)], [(1, 14)], [(21, 31)], [(16, 28), (22, 32)]] [(0, 13), (1, 14), (2, 15), (3, 16), (4, 17), (5, 18), (6, 19), (7, 20), (8, 21), (9, 22), (10, 23), (11, 24), (12, 25), (13, 12), (14, 26), (15, 27), (16, 28), (17, 6), (18, 29), (19, 30), (21, 31), (22, 32)] (fun
      | 0 => .eqv (.pointer (some ⟨rb, 0, none⟩)) | 1 => .eqv (.pointer (some ⟨rb, 0, none⟩)) | 2 => .eqv (.pointer (some ⟨rb, 0, none⟩)) | 3 => .eqv (.pointer (some ⟨rb, 0, none⟩)) | 4 => .eqv (.pointer (some ⟨rb, 0, none⟩)) | 5 => .eqv (.slice A n c) | 6 => .eqv (.pointer (some ⟨rb, 0, none⟩)) | 7 => .eqv (.pointer (some ⟨rb, 0, none⟩)) | 8 => .eqv (.pointer (some ⟨rb, 1, none⟩)) | 9 => .eqv (.int .i64 at_) | 10 => .eqv (.pointer (some ⟨tp, 0, none⟩)) | 11 => .eqv (.slice Aw nw cw) | 12 => .tab w ts' (HdT w.heap.size l nx e) (fun _ _ _ ⟨v0, h1, h2⟩ hg => ⟨v0, h1, h2.keep hg⟩) (fun _ _ j x ⟨v0, h1, h2⟩ => ⟨v0, h1, h2.set hlt j x⟩) hrb hlt | 13 => .hdT w.heap.size l nx e hlt | 14 => .hdR w.heap.size l e hlt | 15 => .eqv (.int .i64 nx) | 16 => .eqv (.int .i64 e) | 17 => .hdR w.heap.size l e hlt | 18 => .eqv (.pointer (some ⟨rb, 0, none⟩)) | 19 => .eqv (.pointer (some ⟨rb, 1, none⟩)) | 20 => .cel 1 (.int .i64 nx) | 21 => .eqv (.pointer (some ⟨rb, 0, none⟩)) | 22 => .eqv (.pointer (some ⟨rb, 2, none⟩)) | 23 => .cel 2 (.int .i64 e) | _ => .any) (by kernel_rfl) (by kernel_rfl) (by kernel_rfl) ?hlf ?hsteps ?hend
    case hlf => intro p hp v u h; simp only [List.mem_cons, List.not_mem_nil, or_false] at hp; rcases hp with rfl | rfl <;> exact h
    case hsteps =>
      refine ⟨fun u hu hx => ?_, fun u hu hx => ?_, fun u hu hx => ?_, fun u hu hx => ?_, fun u hu hx => ?_, fun u hu hx => ?_, fun u hu hx => ?_, fun u hu hx => ?_, fun u hu hx => ?_, fun u hu hx => ?_, fun u hu hx => ?_, fun u hu hx => ?_, fun u hu hx => ?_, fun u hu hx => ?_, fun u hu hx => ?_, fun u hu hx => ?_, fun u hu hx => ?_, fun u hu hx => ?_, fun u hu hx => ?_, fun u hu hx => ?_, fun u hu hx => ?_, fun u hu hx => ?_, fun u hu hx => ?_, fun u hu hx => ?_, trivial⟩
      · refine StepGoal.nil ?_
        go_wp2
        exact ⟨rfl, rfl, Grew.rf _, rfl⟩
      · refine StepGoal.nil ?_
        go_wp2
        exact ⟨rfl, rfl, Grew.rf _, rfl⟩
      · refine StepGoal.nil ?_
        go_wp2
        exact ⟨rfl, rfl, Grew.rf _, rfl⟩
      · rintro _ rfl
        refine StepGoal.nil ?_
        simp only [Act.put, List.setIfInBounds_toArray, List.set_cons_zero, List.set_cons_succ]
        go_wp2
        exact ⟨rfl, rfl, Grew.rf _, rfl⟩
      · rintro _ rfl
        refine StepGoal.nil ?_
        simp only [Act.put, List.setIfInBounds_toArray, List.set_cons_zero, List.set_cons_succ]
        go_wp2
        exact ⟨rfl, rfl, Grew.rf _, rfl⟩
      · rintro _ rfl
        have hce := hx.1.cell (j := 0) (.inr (by simp)) rfl
        refine StepGoal.nil ?_
        simp only [Act.put, List.setIfInBounds_toArray, List.set_cons_zero, List.set_cons_succ]
        go_wp2
        exact ⟨rfl, rfl, Grew.rf _, rfl⟩
      · refine StepGoal.nil ?_
        go_wp2
        exact ⟨rfl, rfl, Grew.rf _, rfl⟩
      · rintro _ rfl
        refine StepGoal.nil ?_
        simp only [Act.put, List.setIfInBounds_toArray, List.set_cons_zero, List.set_cons_succ]
        go_wp2
        exact ⟨rfl, rfl, Grew.rf _, rfl⟩
      · rintro _ rfl
        refine StepGoal.nil ?_
        simp only [Act.put, List.setIfInBounds_toArray, List.set_cons_zero, List.set_cons_succ]
        go_wp2
        exact ⟨rfl, rfl, Grew.rf _, rfl⟩
      · rintro _ rfl
        have hce := hx.1.cell (j := 1) (.inl (by decide)) rfl
        refine StepGoal.nil ?_
        simp only [Act.put, List.setIfInBounds_toArray, List.set_cons_zero, List.set_cons_succ]
        go_wp2
        exact ⟨rfl, rfl, Grew.rf _, rfl⟩
      · refine StepGoal.nil ?_
        go_wp2
        exact ⟨rfl, rfl, Grew.rf _, rfl⟩
      · refine StepGoal.nil ?_
        go_wp2
        exact ⟨rfl, rfl, Grew.rf _, rfl⟩
      · rintro _ rfl _ rfl _ rfl _ rfl
        obtain ⟨csx, hbu, _⟩ := hx.1; have hx2 : TabI u tp lv mb ts := hx.2
        refine StepGoal.nil ?_
        simp only [Act.put, List.setIfInBounds_toArray, List.set_cons_zero, List.set_cons_succ]
        go_wp2_with (go_at_call 33; refine Calls.mono (HTK.out _ (HCH.out _ hu) (HLW.out _ hu) hx2) ?_; rintro e' w3 ⟨v0, rfl, hQ, hv0, hv1⟩)
        obtain ⟨l3, hT3, hf3⟩ := hQ.tab; refine ⟨rfl, rfl, ⟨hQ.chg, hQ.chg.block rb (Array.getElem?_eq_some_iff.1 hbu).1 hrb⟩, ⟨v0, rfl, fun h0 => ?_, fun h1 => hv1 h1⟩, l3, hT3, fun k hk => (hf3 k hk).imp (fun h => h) (fun h => Nat.le_trans hu.size h)⟩; obtain ⟨B, c0, rfl, ho⟩ := hv0 h0; obtain ⟨A5, c5, h5, h6, h7, h8⟩ := ho.rd; cases h5; exact ⟨B, _, _, rfl, h8, Nat.le_refl _, by omega, ho.hdB, fun hn => by subst hn; rcases ho.own.2 with ⟨hv, h9⟩ | ⟨g, cap, cur, hv, _⟩; exact ⟨h9, h9⟩; exact absurd hv (by simp), fun ad e2 => Nat.le_trans hu.size (ho.base_le ad.block (by rw [e2]; rfl))⟩
      · rintro v25 h25
        have h25' := h25.1
        refine StepGoal.nil ?_
        simp only [Act.put, List.setIfInBounds_toArray, List.set_cons_zero, List.set_cons_succ]
        go_wp2
        exact ⟨rfl, rfl, Grew.rf _, h25'⟩
      · rintro v12 h12
        obtain ⟨v0, rfl, h12'⟩ := h12
        refine StepGoal.nil ?_
        simp only [Act.put, List.setIfInBounds_toArray, List.set_cons_zero, List.set_cons_succ]
        go_wp2
        exact ⟨rfl, rfl, Grew.rf _, h12'⟩
      · rintro v12 h12
        obtain ⟨v0, rfl, h12'⟩ := h12
        refine StepGoal.nil ?_
        simp only [Act.put, List.setIfInBounds_toArray, List.set_cons_zero, List.set_cons_succ]
        go_wp2
        exact ⟨rfl, rfl, Grew.rf _, rfl⟩
      · rintro v12 h12
        obtain ⟨v0, rfl, h12'⟩ := h12
        refine StepGoal.nil ?_
        simp only [Act.put, List.setIfInBounds_toArray, List.set_cons_zero, List.set_cons_succ]
        go_wp2
        exact ⟨rfl, rfl, Grew.rf _, rfl⟩
      · rintro v26 h26
        refine StepGoal.nil ?_
        simp only [Act.put, List.setIfInBounds_toArray, List.set_cons_zero, List.set_cons_succ]
        go_wp2
        exact ⟨rfl, rfl, Grew.rf _, h26⟩
      · rintro _ rfl
        refine StepGoal.nil ?_
        simp only [Act.put, List.setIfInBounds_toArray, List.set_cons_zero, List.set_cons_succ]
        go_wp2
        exact ⟨rfl, rfl, Grew.rf _, rfl⟩
      · rintro _ rfl
        refine StepGoal.nil ?_
        simp only [Act.put, List.setIfInBounds_toArray, List.set_cons_zero, List.set_cons_succ]
        go_wp2
        exact ⟨rfl, rfl, Grew.rf _, rfl⟩
      · rintro _ rfl _ rfl
        obtain ⟨y, hy, hz⟩ := hx.1.some (j := 1) (by simp)
        refine StepGoal.nil ?_
        simp only [Act.put, List.setIfInBounds_toArray, List.set_cons_zero, List.set_cons_succ]
        go_wp2
        exact ⟨rfl, rfl, rfl, World.cell?_setCell_same _ _ _ hy⟩
      · rintro _ rfl
        refine StepGoal.nil ?_
        simp only [Act.put, List.setIfInBounds_toArray, List.set_cons_zero, List.set_cons_succ]
        go_wp2
        exact ⟨rfl, rfl, Grew.rf _, rfl⟩
      · rintro _ rfl
        refine StepGoal.nil ?_
        simp only [Act.put, List.setIfInBounds_toArray, List.set_cons_zero, List.set_cons_succ]
        go_wp2
        exact ⟨rfl, rfl, Grew.rf _, rfl⟩
      · rintro _ rfl _ rfl
        obtain ⟨y, hy, hz⟩ := hx.1.some (j := 2) (by simp)
        refine StepGoal.nil ?_
        simp only [Act.put, List.setIfInBounds_toArray, List.set_cons_zero, List.set_cons_succ]
        go_wp2
        exact ⟨rfl, rfl, rfl, World.cell?_setCell_same _ _ _ hy⟩
    case hend =>
      intro u hu hbx hall
      rintro _ rfl _ rfl _ rfl _ rfl _ rfl _ rfl _ rfl _ rfl _ rfl _ rfl _ rfl _ rfl v25 h25 v12 h12 v26 h26 _ rfl _ rfl v6 h6 _ rfl _ rfl _ rfl _ rfl
      refine StepGoal.nil ?_
      simp only [Act.put, List.setIfInBounds_toArray, List.set_cons_zero, List.set_cons_succ]
      have hb2 : u.heap[rb]? = some (.cells (rdC A n c nx e) 106) := by simpa [setAll] using hbx
      have hu' := hu
      have hTB : TbS w tp lv mb ts' u := h25.2
      have hV : HdR w.heap.size l e v6 u := h6
      clear hall hbx
      have HU := Lib.hid hu'
      have HB2 := Lib.hid hb2
      have HTB := Lib.hid hTB
      have HV := Lib.hid hV
      clear hu hu' hb2 h25 hTB h12 h26 h6 hV
      go_wp2_with fail
      go_ret
      exact ⟨_, rfl, fun _ => HV.out, fun h => absurd rfl h, ⟨HB2.out, HCH.out _ HU.out, HR.out.byt, HR.out.le, HR.out.cap, HR.out.few, HR.out.ap, hn0, hn1⟩, HTB.out, HU.out⟩
  · have hn : headR ts bs at_ er was = ([], at_, er, ts) := by simp [headR, h0]
    rw [hn] at he
    simp only [Prod.mk.injEq] at he
    obtain ⟨rfl, rfl, rfl, rfl⟩ := he
    have d0 : (er == 0) = false := by simpa using h0
    have dd0 : decide (er = 0) = false := by simpa using h0
    clear hn
    go_enter Try.func55, Try.ntmps55
    go_wp2_with fail
    go_ret
    exact ⟨_, rfl, fun h => absurd h h0, fun _ => rfl, HR.out, ⟨lv, HT.out, fun k hk => .inl hk⟩, Chg.of (Grew.rf w)⟩
end Go.Proofs.Ytbkcpgaicoagfaa
/- Events as bytes, in plain words. -/
set_option linter.unusedVariables false
set_option linter.unusedSimpArgs false
namespace Go.Proofs.Ytbkcpgaicoagfaa
open Go.RowKit

def fldI (x : Ev) (f : Nat) : Int := if f = 8 then x.co else x.st
def fldT (x : Ev) (f : Nat) : ByteArray := if f = 3 then x.me else if f = 4 then x.ur else if f = 10 then x.no else x.bo
def numI (x : Ev) : List Int := (numF x.ki).map (fldI x)
def worE (x : Ev) : List ByteArray := (worF x.ki).map (fldT x)
def lebs (l : List Int) : List Int := l.flatMap leb
def midE (x : Ev) : List Int := if x.ki = 2 then leb (if x.cr then 1 else 0) ++ leb x.nn else if x.ki = 5 ∨ x.ki = 6 then leb x.nn else []
/-- Texts, one behind the other. -/
def putTs : List ByteArray → List ByteArray → List Int × List ByteArray
  | ts, [] => ([], ts)
  | ts, s :: r => ((putT ts s).1 ++ (putTs (putT ts s).2 r).1, (putTs (putT ts s).2 r).2)
theorem putTs_snoc : ∀ (l : List ByteArray) (ts : List ByteArray) (s : ByteArray), putTs ts (l ++ [s]) = ((putTs ts l).1 ++ (putT (putTs ts l).2 s).1, (putT (putTs ts l).2 s).2)
  | [], ts, s => by simp [putTs]
  | t :: l, ts, s => by
    have := putTs_snoc l (putT ts t).2 s
    simp only [List.cons_append, putTs, this, List.append_assoc]
theorem putTs_len : ∀ (l : List ByteArray) (ts : List ByteArray), (∀ s ∈ l, s.size ≤ 10000) → ts.length + l.length ≤ 1000000 → (putTs ts l).1.length ≤ 10020 * l.length ∧ ts.length ≤ (putTs ts l).2.length ∧ (putTs ts l).2.length ≤ ts.length + l.length
  | [], ts, _, _ => by simp [putTs]
  | s :: l, ts, h, hl => by
    have h1 := h s (List.mem_cons_self ..)
    rw [List.length_cons] at hl ⊢
    obtain ⟨a1, a2, a3⟩ := putT_len2 ts s (by omega) (by omega)
    obtain ⟨b1, b2, b3⟩ := putTs_len l (putT ts s).2 (fun t ht => h t (List.mem_cons_of_mem _ ht)) (by omega)
    simp only [putTs, List.length_append]
    omega
def headB (s : PB) (x : Ev) : List Int := leb x.ki ++ (leb x.se ++ leb (x.ti - s.ti))
def dltB (s : PB) (x : Ev) (ts : List ByteArray) : List Int × List ByteArray := if isL x.ki then putD ts (s.L x.se (decide (x.ki = 3))) x.hs else ([], ts)
/-- An event behind what was told: its bytes, and what was told then. -/
def putB (s : PB) (x : Ev) : List Int × PB :=
  (headB s x ++ lebs (numI x) ++ midE x ++ (putTs s.ts (worE x)).1 ++ (dltB s x (putTs s.ts (worE x)).2).1, toldB s (dltB s x (putTs s.ts (worE x)).2).2 x)

/-- Whether the integers are what Go's may be. -/
structure EvW (x : Ev) : Prop where
  ki : -9223372036854775808 ≤ x.ki ∧ x.ki ≤ 9223372036854775807
  se : -9223372036854775808 ≤ x.se ∧ x.se ≤ 9223372036854775807
  ti : -9223372036854775808 ≤ x.ti ∧ x.ti ≤ 9223372036854775807
  st : -9223372036854775808 ≤ x.st ∧ x.st ≤ 9223372036854775807
  co : -9223372036854775808 ≤ x.co ∧ x.co ≤ 9223372036854775807
  nn : 0 ≤ x.nn ∧ x.nn < 18446744073709551616
/-- What a good event is bound by. -/
structure GoodP (x : Ev) : Prop where
  ki : 1 ≤ x.ki ∧ x.ki ≤ 7
  se : 0 ≤ x.se ∧ x.se ≤ 1048576
  ti : 0 ≤ x.ti ∧ x.ti ≤ 1099511627776
  me : x.me.size ≤ 512
  no : x.no.size ≤ 512
  ur : x.ur.size ≤ 2048
  bo : x.bo.size ≤ 2048
  hs : x.hs.length ≤ 25
  hd : ∀ h ∈ x.hs, h.1.size ≤ 512 ∧ h.2.size ≤ 2048
  num : ∀ f ∈ numF x.ki, 0 ≤ fldI x f ∧ fldI x f ≤ 1000
theorem modesB_bd {c : Int} (h : modesB c = true) : 0 ≤ c ∧ c ≤ 1000 := by
  unfold modesB modesR at h
  simp only [Bool.and_eq_true, decide_eq_true_eq] at h
  omega
theorem goodP_of {x : Ev} (h : goodE x = true) : GoodP x := by
  unfold goodE sizedB at h
  simp only [Bool.and_eq_true, decide_eq_true_eq] at h
  obtain ⟨⟨⟨a1, a2, a3, a4, a5⟩, a6, a7, a8, a9, a10⟩, hk⟩ := h
  have hany : ∀ h ∈ x.hs, h.1.size ≤ 512 ∧ h.2.size ≤ 2048 := fun y hy => by
    have h0 : x.hs.any bigH = false := by simpa using a6
    have := (List.any_eq_false.1 h0) y hy
    unfold bigH at this
    simp only [Bool.or_eq_true, decide_eq_true_eq, not_or] at this
    omega
  have hki : 1 ≤ x.ki ∧ x.ki ≤ 7 ∧ ∀ f ∈ numF x.ki, 0 ≤ fldI x f ∧ fldI x f ≤ 1000 := by
    unfold goodK at hk
    split at hk
    · rename_i e
      have := modesB_bd (Bool.and_eq_true_iff.1 hk).2
      rw [e]
      exact ⟨by omega, by omega, fun f hf => by simp [numF] at hf; subst hf; simpa [fldI] using this⟩
    · split at hk
      · rename_i e
        simp only [Bool.and_eq_true, decide_eq_true_eq] at hk
        rw [e]
        exact ⟨by omega, by omega, fun f hf => by simp [numF] at hf; subst hf; simp only [fldI]; simp; omega⟩
      · split at hk
        · rename_i e
          simp only [Bool.and_eq_true, decide_eq_true_eq] at hk
          rw [e]
          exact ⟨by omega, by omega, fun f hf => by simp [numF] at hf; subst hf; simp only [fldI]; simp; omega⟩
        · split at hk
          · rename_i e; rw [e]; exact ⟨by omega, by omega, fun f hf => by simp [numF] at hf⟩
          · split at hk
            · rename_i e; rw [e]; exact ⟨by omega, by omega, fun f hf => by simp [numF] at hf⟩
            · split at hk
              · rename_i e; rw [e]; exact ⟨by omega, by omega, fun f hf => by simp [numF] at hf⟩
              · split at hk
                · rename_i e
                  simp only [Bool.and_eq_true, decide_eq_true_eq] at hk
                  rw [e]
                  refine ⟨by omega, by omega, fun f hf => ?_⟩
                  simp [numF] at hf
                  rcases hf with rfl | rfl <;> (simp only [fldI]; simp; omega)
                · cases hk
  exact ⟨⟨hki.1, hki.2.1⟩, ⟨a7, a8⟩, ⟨a9, a10⟩, a1, a2, a3, a4, a5, hany, hki.2.2⟩
theorem lebs_snoc (l : List Int) (v : Int) : lebs (l ++ [v]) = lebs l ++ leb v := by simp [lebs]
end Go.Proofs.Ytbkcpgaicoagfaa
/- Take's state; a drawn region that keeps a word on the world. -/
set_option linter.unusedVariables false
set_option linter.unusedSimpArgs false
namespace Go.Proofs.Ytbkcpgaicoagfaa
open Go.RowKit

/-- A drawn region whose operations keep a word on the world, and leave known values. -/
structure Pw where
  p : Value → Prop
def Pw.eqv (v0 : Value) : Pw := ⟨fun v => v = v0⟩
def Pw.any : Pw := ⟨fun _ => True⟩
def KeepB (B : World → Prop) (u u' : World) : Prop := B u → B u'
theorem region_inv {ops : List Oper} {Q : Exit → Act → World → Prop} {a0 : Act} {id : Nat} {w : World} (B : World → Prop) (hd : B w.drew) (D : List (List (Nat × Tmp))) (E : List (Nat × Tmp)) (F : Nat → Pw)
    (hok : (regionOk ops.toArray a0.tmps.size (D.map (·.map (·.1))).toArray && pairsOk ops.toArray D && decide (pairsOf ops.toArray (List.range ops.length) = E)) = true)
    (hsteps : StepsOk (fun i v _ => (F i).p v) B (KeepB B) Try.prog ops.toArray a0 ops D 0)
    (hend : ∀ u, B u → StepGoal (fun i v _ => (F i).p v) u (fun a => Q .normal a u) E a0) :
    (Code.region id ops.toArray true).wp Try.prog Q a0 w :=
  region_mono D E (fun i v _ => (F i).p v) B (KeepB B) follows hok (fun i v u u' h _ => h) (fun u u' h hg => hg h) hd hsteps hend

def setI (x : Ev) (f : Nat) (v : Int) : Ev := if f = 8 then { x with co := v } else { x with st := v }
def setT (x : Ev) (f : Nat) (s : ByteArray) : Ev := if f = 3 then { x with me := s } else if f = 4 then { x with ur := s } else if f = 10 then { x with no := s } else { x with bo := s }
/-- Where Take stands: the reader, the event's box, the table. -/
structure TkS (w0 : World) (tp : Nat) (lv : Value) (mb rb xb : Nat) (A : Option Addr) (n c : Nat) (bs : List Int) (x : Ev) (at_ er : Int) (ts : List ByteArray) (u : World) : Prop where
  rdr : RdI u rb A n c bs at_ er
  xbox : u.heap[xb]? = some (evO x none 0 0)
  tab : TbS w0 tp lv mb ts u
  chg : Chg (ftp tp lv mb) w0 u
  r0 : w0.heap.size ≤ rb
  x0 : w0.heap.size ≤ xb
section
variable {w0 : World} {tp : Nat} {lv : Value} {mb rb xb : Nat} {A : Option Addr} {n c : Nat} {bs : List Int} {x : Ev} {at_ er at' er' : Int} {ts ts' : List ByteArray} {u u' : World}
theorem TkS.ne (h : TkS w0 tp lv mb rb xb A n c bs x at_ er ts u) : rb ≠ xb := fun e => by
  have h1 := h.rdr.box
  rw [e, h.xbox] at h1
  simp only [Option.some.injEq, Obj.cells.injEq] at h1
  exact absurd h1.2.1 (by decide)
theorem TbS.chg {F : Nat → Prop} (h : TbS w0 tp lv mb ts u) (hg : Chg F u u') (hF : ∀ l, TabI u tp l mb ts → ∀ k, ftp tp l mb k → ¬ F k) : TbS w0 tp lv mb ts u' := by
  obtain ⟨l, h1, h2⟩ := h
  exact ⟨l, h1.chg hg (hF l h1), h2⟩
theorem TkS.num (h : TkS w0 tp lv mb rb xb A n c bs x at_ er ts u) (hQ : RdQ u rb A n c bs at' er' u') : TkS w0 tp lv mb rb xb A n c bs x at' er' ts u' :=
  ⟨hQ.rdr, hQ.chg.by_ h.xbox (fun e => h.ne e.symm), h.tab.chg hQ.chg (fun l hl k hk e => ftp_nobook hl h.rdr.box (by decide) (by decide) (e ▸ hk)), h.chg.tr (hQ.chg.mono (fun b e => .inr (by rw [e]; exact h.r0))), h.r0, h.x0⟩
/-- A field is stored. -/
theorem TkS.set (h : TkS w0 tp lv mb rb xb A n c bs x at_ er ts u) (hAx : 0 < n → ∀ ad, A = some ad → ad.block ≠ xb) {j : Nat} {v : Value} {x' : Ev} (hx : (evA x none 0 0).setIfInBounds j v = evA x' none 0 0) : TkS w0 tp lv mb rb xb A n c bs x' at_ er ts (u.setCell ⟨xb, j, none⟩ v) := by
  have hc := setC_chg u xb j v
  have hb := setCell_heap_same h.xbox (i := j) v
  rw [hx] at hb
  refine ⟨⟨hc.by_ h.rdr.box (fun e => h.ne e), h.rdr.rd.chg hc (fun h0 ad e => hAx h0 ad e), h.rdr.byt, h.rdr.le, h.rdr.cap, h.rdr.few, h.rdr.ap, h.rdr.a0, h.rdr.a1⟩, hb, h.tab.chg hc (fun l hl k hk e => ftp_nobook hl h.xbox (by decide) (by decide) (e ▸ hk)), h.chg.tr (hc.mono (fun b e => .inr (by rw [e]; exact h.x0))), h.r0, h.x0⟩
theorem TkS.text (h : TkS w0 tp lv mb rb xb A n c bs x at_ er ts u) {l : Value} (hl : TabI u tp l mb ts) (hf : ∀ k, ftp tp l mb k → ftp tp lv mb k ∨ w0.heap.size ≤ k) (hQ : TxQ u rb A n c bs at' er' tp l mb ts' u') : TkS w0 tp lv mb rb xb A n c bs x at' er' ts' u' := by
  obtain ⟨l2, h1, h2⟩ := hQ.tab
  have hsz := h.chg.size
  have hnx : ¬ (xb = rb ∨ ftp tp l mb xb) := fun e => e.elim (fun e => h.ne e.symm) (fun e => ftp_nobook hl h.xbox (by decide) (by decide) e)
  refine ⟨hQ.rdr, hQ.chg.by_ h.xbox hnx, ⟨l2, h1, fun k hk => ?_⟩, h.chg.tr (hQ.chg.mono (fun b e => ?_)), h.r0, h.x0⟩
  · rcases h2 k hk with h3 | h3
    · exact hf k h3
    · exact .inr (by omega)
  · rcases e with e | e
    · exact .inr (by rw [e]; exact h.r0)
    · exact hf b e
theorem TkS.keep (h : TkS w0 tp lv mb rb xb A n c bs x at_ er ts u) (hg : Grew u u') : TkS w0 tp lv mb rb xb A n c bs x at_ er ts u' :=
  ⟨⟨heap_keep hg h.rdr.box, h.rdr.rd.keep hg, h.rdr.byt, h.rdr.le, h.rdr.cap, h.rdr.few, h.rdr.ap, h.rdr.a0, h.rdr.a1⟩, heap_keep hg h.xbox, h.tab.keep hg, h.chg.tr (Chg.of hg), h.r0, h.x0⟩
end

/-! ### In plain words -/
/-- The numbers of an event, one by one into their fields. -/
def numsR (bs : List Int) : List Nat → Ev → Int → Int → Ev × Int × Int
  | [], x, a, e => (x, a, e)
  | f :: r, x, a, e => numsR bs r (setI x f (smallV (numR bs a e).1)) (numR bs a e).2.1 (numR bs a e).2.2
def wordsR (bs : List Int) : List Nat → Ev → Int → Int → List ByteArray → Ev × Int × Int × List ByteArray
  | [], x, a, e, ts => (x, a, e, ts)
  | f :: r, x, a, e, ts => wordsR bs r (setT x f (textR ts bs a e).1) (textR ts bs a e).2.1 (textR ts bs a e).2.2.1 (textR ts bs a e).2.2.2
theorem numsR_snoc (bs : List Int) : ∀ (l : List Nat) (f : Nat) (x : Ev) (a e : Int), numsR bs (l ++ [f]) x a e = numsR bs [f] (numsR bs l x a e).1 (numsR bs l x a e).2.1 (numsR bs l x a e).2.2
  | [], _, _, _, _ => rfl
  | g :: l, f, x, a, e => by
    rw [List.cons_append]
    exact numsR_snoc bs l f _ _ _
theorem wordsR_snoc (bs : List Int) : ∀ (l : List Nat) (f : Nat) (x : Ev) (a e : Int) (ts : List ByteArray), wordsR bs (l ++ [f]) x a e ts = wordsR bs [f] (wordsR bs l x a e ts).1 (wordsR bs l x a e ts).2.1 (wordsR bs l x a e ts).2.2.1 (wordsR bs l x a e ts).2.2.2
  | [], _, _, _, _, _ => rfl
  | g :: l, f, x, a, e, ts => by
    rw [List.cons_append]
    exact wordsR_snoc bs l f _ _ _ _
abbrev zeroE : Ev := ⟨0, 0, 0, noT, noT, [], noT, 0, 0, false, noT, 0⟩
/-- Behind the texts: the headers, and whether the event may be. -/
def takeH (s : PB) (bs : List Int) (more : Int) (x : Ev) (a e : Int) (ts : List ByteArray) : Ev × Int × Int × PB :=
  let h := if isL x.ki then headR ts bs a e (s.L x.se (decide (x.ki = 3))) else ([], a, e, ts)
  let y : Ev := if isL x.ki then { x with hs := if h.2.2.1 = 0 then h.1 else [] } else x
  if h.2.2.1 ≠ 0 then (zeroE, 0, h.2.2.1, ⟨h.2.2.2, s.ti, s.L⟩)
  else if more < 0 ∨ goodE y = false then (zeroE, 0, 4, ⟨h.2.2.2, s.ti, s.L⟩)
  else (y, h.2.1, 0, toldB s h.2.2.2 y)
/-- Behind the numbers: what is a flag or a number of 64 bits; the texts. -/
def takeM (s : PB) (bs : List Int) (more : Int) (x : Ev) (a e : Int) : Ev × Int × Int × PB :=
  let go := fun (x : Ev) (a e : Int) => let q := wordsR bs (worF x.ki) x a e s.ts; takeH s bs more q.1 q.2.1 q.2.2.1 q.2.2.2
  if x.ki = 2 then
    let r := numR bs a e
    if r.2.2 = 0 ∧ 1 < r.1 then (zeroE, 0, 4, s)
    else let t := numR bs r.2.1 r.2.2; go { x with cr := decide (r.1 = 1), nn := t.1 } t.2.1 t.2.2
  else if x.ki = 5 ∨ x.ki = 6 then let t := numR bs a e; go { x with nn := t.1 } t.2.1 t.2.2
  else go x a e
/-- The event that stands at a place. -/
def takeB (s : PB) (bs : List Int) (at_ : Int) : Ev × Int × Int × PB :=
  let r1 := numR bs at_ 0
  let ki := smallV r1.1
  if r1.2.2 = 0 ∧ ¬ (1 ≤ ki ∧ ki ≤ 7) then (zeroE, 0, 4, s)
  else
    let r2 := numR bs r1.2.1 r1.2.2
    let r3 := numR bs r2.2.1 r2.2.2
    let more := smallV r3.1
    let q := numsR bs (numF ki) { zeroE with ki := ki, se := smallV r2.1, ti := s.ti + max more 0 } r3.2.1 r3.2.2
    takeM s bs more q.1 q.2.1 q.2.2
end Go.Proofs.Ytbkcpgaicoagfaa
/- Bounds of what is read. -/
set_option linter.unusedVariables false
set_option linter.unusedSimpArgs false
namespace Go.Proofs.Ytbkcpgaicoagfaa
open Go.RowKit

theorem lebTake_bd {bs : List Int} (hb : Byt bs) (at_ : Int) : 0 ≤ (lebTake bs at_).1 ∧ (lebTake bs at_).1 < 18446744073709551616 ∧ 0 ≤ (lebTake bs at_).2.1 ∧ (lebTake bs at_).2.1 ≤ bs.length := by
  by_cases h : (lebTake bs at_).2.2 = 0
  · have he : lebTake bs at_ = ((lebTake bs at_).1, (lebTake bs at_).2.1, 0) := by rw [← h]
    obtain ⟨h1, h2, h3, _, h5, h6⟩ := lebTake_exact hb he
    exact ⟨h5, h6, by omega, h3⟩
  · have h0 : lebTake bs at_ = (0, 0, (lebTake bs at_).2.2) := by
      unfold lebTake at h ⊢
      split at h
      · rename_i h1; rw [if_pos h1]
      · rename_i h1
        rw [if_neg h1]
        split at h
        · rename_i h2; rw [if_pos h2]
        · rename_i h2
          rw [if_neg h2]
          dsimp only at h ⊢
          split at h
          · simp at h
          · rename_i h3; rw [if_neg h3]
    rw [h0]
    exact ⟨by simp, by simp, by simp, by simp⟩
theorem lebTake_z {bs : List Int} {at_ : Int} (h : (lebTake bs at_).2.2 ≠ 0) : (lebTake bs at_).1 = 0 ∧ (lebTake bs at_).2.1 = 0 := by
  unfold lebTake at h ⊢
  split at h
  · rename_i h1; rw [if_pos h1]; exact ⟨rfl, rfl⟩
  · rename_i h1
    rw [if_neg h1]
    split at h
    · rename_i h2; rw [if_pos h2]; exact ⟨rfl, rfl⟩
    · rename_i h2
      rw [if_neg h2]
      dsimp only at h ⊢
      split at h
      · simp at h
      · rename_i h3; rw [if_neg h3]; exact ⟨rfl, rfl⟩
theorem numR_bd {bs : List Int} (hb : Byt bs) (hl : bs.length ≤ 5000000) {at_ : Int} (er : Int) (h0 : -9223372036854775808 ≤ at_) (h1 : at_ ≤ 9223372036854775807) : 0 ≤ (numR bs at_ er).1 ∧ (numR bs at_ er).1 < 18446744073709551616 ∧ -9223372036854775808 ≤ (numR bs at_ er).2.1 ∧ (numR bs at_ er).2.1 ≤ 9223372036854775807 := by
  unfold numR
  split
  · have := lebTake_bd hb at_
    omega
  · exact ⟨by simp, by simp, h0, h1⟩
theorem textR_bd {bs : List Int} (hb : Byt bs) (hl : bs.length ≤ 5000000) (ts : List ByteArray) {at_ : Int} (er : Int) (h0 : -9223372036854775808 ≤ at_) (h1 : at_ ≤ 9223372036854775807) : -9223372036854775808 ≤ (textR ts bs at_ er).2.1 ∧ (textR ts bs at_ er).2.1 ≤ 9223372036854775807 ∧ ts.length ≤ (textR ts bs at_ er).2.2.2.length ∧ (textR ts bs at_ er).2.2.2.length ≤ ts.length + 1 := by
  unfold textR
  split
  · have := takeT_ok2 (ts := ts) (at_ := at_) hb
    omega
  · exact ⟨h0, h1, by simp, by simp⟩
theorem takeFs_pl {b : List Int} (hb : Byt b) : ∀ (n : Nat) (ts : List ByteArray) (a : Int), 0 ≤ a → a ≤ b.length → 0 ≤ (takeFs b n ts a).2.1 ∧ (takeFs b n ts a).2.1 ≤ b.length
  | 0, ts, a, h0, h1 => ⟨h0, h1⟩
  | n + 1, ts, a, h0, h1 => by
    obtain ⟨⟨s, nx, er, ts1⟩, h⟩ : ∃ r, takeT ts b a = r := ⟨_, rfl⟩
    have hk := takeT_ok2 (ts := ts) (at_ := a) hb
    rw [h] at hk
    by_cases he : er = 0
    · subst he
      obtain ⟨⟨s2, nx2, er2, ts2⟩, h2⟩ : ∃ r, takeT ts1 b nx = r := ⟨_, rfl⟩
      have hk2 := takeT_ok2 (ts := ts1) (at_ := nx) hb
      rw [h2] at hk2
      by_cases he2 : er2 = 0
      · subst he2
        rw [takeFs_ok h h2]
        have := takeFs_pl hb n ts2 nx2 hk2.1 hk2.2.1
        unfold preFs
        split <;> first | exact this | simp
      · rw [takeFs_e2 h h2 he2]; simp
    · rw [takeFs_e1 h he]; simp
theorem takeD_bd {b : List Int} (hb : Byt b) (ts : List ByteArray) (at_ : Int) (was : List Hdr) : 0 ≤ (takeD ts b at_ was).2.1 ∧ (takeD ts b at_ was).2.1 ≤ b.length ∧ ts.length ≤ (takeD ts b at_ was).2.2.2.length ∧ (takeD ts b at_ was).2.2.2.length ≤ ts.length + 50 := by
  have k0 := lebTake_bd hb at_
  obtain ⟨⟨v0, n0, e0⟩, h0⟩ : ∃ r, lebTake b at_ = r := ⟨_, rfl⟩
  rw [h0] at k0
  have k1 := lebTake_bd hb n0
  obtain ⟨⟨v1, n1, e1⟩, h1⟩ : ∃ r, lebTake b n0 = r := ⟨_, rfl⟩
  rw [h1] at k1
  have k2 := lebTake_bd hb n1
  obtain ⟨⟨v2, n2, e2⟩, h2⟩ : ∃ r, lebTake b n1 = r := ⟨_, rfl⟩
  rw [h2] at k2
  have hp := takeFs_pl hb v2.toNat ts n2 k2.2.2.1 k2.2.2.2
  have hl := takeFs_len hb v2.toNat ts n2
  unfold takeD
  simp only [h0, h1, h2]
  dsimp only at k0 k1 k2
  split
  · simp
  · split
    · simp
    · split
      · simp
      · split
        · simp
        · split
          · simp
          · split
            · exact ⟨by simp, by simp, by dsimp only; omega, by dsimp only; omega⟩
            · split
              · exact ⟨by simp, by simp, by dsimp only; omega, by dsimp only; omega⟩
              · exact ⟨hp.1, hp.2, by dsimp only; omega, by dsimp only; omega⟩
theorem headR_bd {bs : List Int} (hb : Byt bs) (hl : bs.length ≤ 5000000) (ts : List ByteArray) {at_ : Int} (er : Int) (was : List Hdr) (h0 : -9223372036854775808 ≤ at_) (h1 : at_ ≤ 9223372036854775807) : -9223372036854775808 ≤ (headR ts bs at_ er was).2.1 ∧ (headR ts bs at_ er was).2.1 ≤ 9223372036854775807 ∧ ts.length ≤ (headR ts bs at_ er was).2.2.2.length ∧ (headR ts bs at_ er was).2.2.2.length ≤ ts.length + 50 := by
  unfold headR
  split
  · have := takeD_bd hb ts at_ was
    omega
  · exact ⟨h0, h1, by simp, by simp⟩
theorem smallV_bd {v : Int} (h : 0 ≤ v) : -1 ≤ smallV v ∧ smallV v ≤ 1125899906842624 := by unfold smallV; split <;> omega
/-- small, from where Take stands. -/
theorem TkS.small {w0 : World} {tp : Nat} {lv : Value} {mb rb xb : Nat} {A : Option Addr} {n c : Nat} {bs : List Int} {x : Ev} {at_ er : Int} {ts : List ByteArray} {u : World} (h : TkS w0 tp lv mb rb xb A n c bs x at_ er ts u) (hl : bs.length ≤ 5000000) :
    Calls Try.prog 51 #[.pointer (some ⟨rb, 0, none⟩)] u fun e' w' => e' = .returned (.int .i64 (smallV (numR bs at_ er).1)) ∧ TkS w0 tp lv mb rb xb A n c bs x (numR bs at_ er).2.1 (numR bs at_ er).2.2 ts w' := by
  have hb := numR_bd h.rdr.byt hl er h.rdr.a0 h.rdr.a1
  exact Calls.mono (small_any rb A n c bs at_ er _ _ _ u h.rdr rfl hb.2.2.1 hb.2.2.2 hb.1) (fun e' w' h2 => ⟨h2.1, h.num h2.2⟩)
theorem TkS.number {w0 : World} {tp : Nat} {lv : Value} {mb rb xb : Nat} {A : Option Addr} {n c : Nat} {bs : List Int} {x : Ev} {at_ er : Int} {ts : List ByteArray} {u : World} (h : TkS w0 tp lv mb rb xb A n c bs x at_ er ts u) (hl : bs.length ≤ 5000000) :
    Calls Try.prog 53 #[.pointer (some ⟨rb, 0, none⟩)] u fun e' w' => e' = .returned (.int .u64 (numR bs at_ er).1) ∧ TkS w0 tp lv mb rb xb A n c bs x (numR bs at_ er).2.1 (numR bs at_ er).2.2 ts w' := by
  have hb := numR_bd h.rdr.byt hl er h.rdr.a0 h.rdr.a1
  exact Calls.mono (number_any rb A n c bs at_ er _ _ _ u h.rdr rfl hb.2.2.1 hb.2.2.2) (fun e' w' h2 => ⟨h2.1, h.num h2.2⟩)
/-- A store into a field of the event, at the list of operations. -/
theorem TkS.cell {w0 : World} {tp : Nat} {lv : Value} {mb rb xb : Nat} {A : Option Addr} {n c : Nat} {bs : List Int} {x : Ev} {at_ er : Int} {ts : List ByteArray} {u : World} (h : TkS w0 tp lv mb rb xb A n c bs x at_ er ts u) {j : Nat} (hj : j < 12) : ∃ v, u.cell? ⟨xb, j, none⟩ = some v ∧ u.frozen? ⟨xb, j, none⟩ = false := by
  have hs : j < (evA x none 0 0).size := hj
  exact ⟨(evA x none 0 0)[j], cell_of_heap h.xbox (by simp [hs]), frozen_of_heap h.xbox⟩
end Go.Proofs.Ytbkcpgaicoagfaa
