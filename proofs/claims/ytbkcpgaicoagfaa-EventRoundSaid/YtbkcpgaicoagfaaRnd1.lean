/- EventRound: events one behind the other; two Books of the program's, side by side. -/
import Derived.Test.YtbkcpgaicoagfaaPureR3
import Derived.Test.YtbkcpgaicoagfaaHlp
set_option linter.unusedVariables false
set_option linter.unusedSimpArgs false
namespace Go.Proofs.Ytbkcpgaicoagfaa
open Go.RowKit

/-! ### Events one behind the other -/
def encE : PB → List Ev → List Int × PB
  | s, [] => ([], s)
  | s, x :: l => ((putB s x).1 ++ (encE (putB s x).2 l).1, (encE (putB s x).2 l).2)
def OkL : PB → List Ev → Prop
  | _, [] => True
  | s, x :: l => (goodE x = true ∧ EvW x ∧ s.ti ≤ x.ti) ∧ OkL (putB s x).2 l
theorem encE_snoc : ∀ (l : List Ev) (s : PB) (x : Ev), encE s (l ++ [x]) = ((encE s l).1 ++ (putB (encE s l).2 x).1, (putB (encE s l).2 x).2)
  | [], s, x => by simp [encE]
  | y :: l, s, x => by
    have := encE_snoc l (putB s y).2 x
    simp only [List.cons_append, encE, this, List.append_assoc]
theorem OkL.snoc : ∀ {l : List Ev} {s : PB} {x : Ev}, OkL s l → (goodE x = true ∧ EvW x ∧ (encE s l).2.ti ≤ x.ti) → OkL s (l ++ [x])
  | [], s, x, _, h => ⟨h, trivial⟩
  | y :: l, s, x, h1, h2 => ⟨h1.1, OkL.snoc h1.2 h2⟩
theorem putB_bytes {s : PB} {x : Ev} (hok : PBOk s) (hg : goodE x = true) (hW : EvW x) (hl : s.ti ≤ x.ti) : Byt (putB s x).1 := by
  have hk := (goodP_of hg).ki
  rw [putB_parts]
  exact byt_app (leb_byte (by omega)) (byt_app (lebs_byt _ (fun v hv => (vs_bd hok hg hW hl v hv).1)) (byt_app (putTs_bytes _ _) (dltB_bytes _ _ _)))
theorem putB_ok {s : PB} {x : Ev} (hok : PBOk s) (hg : goodE x = true) : PBOk (putB s x).2 := by
  have h1 : Dist (putTs s.ts (worE x)).2 := hok.dist.puts _
  have h2 : Dist (dltB s x (putTs s.ts (worE x)).2).2 := by
    unfold dltB
    split
    · exact putD_dist _ _ h1
    · exact h1
  exact hok.told h2 hg
theorem putB_pos {s : PB} {x : Ev} (hg : goodE x = true) : 1 ≤ (putB s x).1.length := by
  have hk := (goodP_of hg).ki
  rw [putB_parts, leb_ki hk]
  simp
theorem lebs_len : ∀ (l : List Int), (∀ v ∈ l, 0 ≤ v) → (lebs l).length ≤ 10 * l.length
  | [], _ => by simp [lebs]
  | v :: l, h => by
    have h1 := leb_len (h v (List.mem_cons_self ..))
    have h2 := lebs_len l (fun y hy => h y (List.mem_cons_of_mem _ hy))
    rw [lebs_cons, List.length_append, List.length_cons]
    omega
theorem putB_len {s : PB} {x : Ev} (hok : PBOk s) (hg : goodE x = true) (hW : EvW x) (hl : s.ti ≤ x.ti) (hs : s.ts.length ≤ 800000) : (putB s x).1.length ≤ 110000 := by
  have hG := goodP_of hg
  have hk := hG.ki
  have l1 := leb_len (v := x.ki) (by omega)
  have l2 := lebs_len (vsE s x) (fun v hv => (vs_bd hok hg hW hl v hv).1)
  have l3 := vs_len s hk
  have l4 : manyE x.ki ≤ 5 := by unfold manyE; (repeat' split) <;> omega
  have hwl : (worE x).length ≤ 4 := by
    have : (worE x).length = (worF x.ki).length := by unfold worE; rw [List.length_map]
    rw [this]
    unfold worF
    (repeat' split) <;> simp
  have hpt := putTs_len (worE x) s.ts (fun t ht => by
    unfold worE at ht
    obtain ⟨f, hf, rfl⟩ := List.mem_map.1 ht
    have := sizes_of hG f
    omega) (by omega)
  have hd : (dltB s x (putTs s.ts (worE x)).2).1.length ≤ 65030 := by
    unfold dltB
    split
    · exact putD_len5 _ _ _ hG.hs hG.hd (by omega)
    · simp
  rw [putB_parts]
  simp only [List.length_append]
  omega
theorem encE_ok : ∀ {l : List Ev} {s : PB}, PBOk s → OkL s l → PBOk (encE s l).2 ∧ Byt (encE s l).1
  | [], s, h, _ => ⟨h, fun x hx => by cases hx⟩
  | x :: l, s, h, ho => by
    obtain ⟨⟨h1, h2, h3⟩, h4⟩ := ho
    obtain ⟨i1, i2⟩ := encE_ok (putB_ok h h1) h4
    exact ⟨i1, byt_app (putB_bytes h h1 h2 h3) i2⟩
theorem encE_split : ∀ {l : List Ev} {s : PB} {i : Nat} {x : Ev}, PBOk s → OkL s l → l[i]? = some x →
    ∃ rest, (encE s l).1 = ((encE s (l.take i)).1 ++ (putB (encE s (l.take i)).2 x).1) ++ rest ∧ Byt rest ∧ PBOk (encE s (l.take i)).2 ∧ goodE x = true ∧ EvW x ∧ (encE s (l.take i)).2.ti ≤ x.ti ∧ encE s (l.take (i + 1)) = ((encE s (l.take i)).1 ++ (putB (encE s (l.take i)).2 x).1, (putB (encE s (l.take i)).2 x).2)
  | [], s, i, x, _, _, h => by simp at h
  | y :: l, s, 0, x, hp, ho, h => by
    simp at h
    subst h
    obtain ⟨⟨h1, h2, h3⟩, h4⟩ := ho
    refine ⟨(encE (putB s y).2 l).1, by simp [encE], (encE_ok (putB_ok hp h1) h4).2, hp, h1, h2, h3, by simp [encE]⟩
  | y :: l, s, i + 1, x, hp, ho, h => by
    obtain ⟨⟨h1, h2, h3⟩, h4⟩ := ho
    obtain ⟨rest, r1, r2, r3, r4, r5, r6, r7⟩ := encE_split (l := l) (i := i) (x := x) (putB_ok hp h1) h4 (by simpa using h)
    refine ⟨rest, ?_, r2, ?_, r4, r5, ?_, ?_⟩
    · simp only [List.take_succ_cons, encE, r1, List.append_assoc]
    · simpa [List.take_succ_cons, encE] using r3
    · simpa [List.take_succ_cons, encE] using r6
    · simp only [List.take_succ_cons, encE, r7, List.append_assoc]

/-! ### Two Books of the program's -/
structure TwoE (w : World) (p1 tp1 : Nat) (lv1 : Value) (mb1 lb1 k1 : Nat) (s1 : PB) (p2 tp2 : Nat) (lv2 : Value) (mb2 lb2 k2 : Nat) (s2 : PB) (wr : World) : Prop where
  b1 : BookI wr p1 tp1 lv1 mb1 lb1 k1 s1
  b2 : BookI wr p2 tp2 lv2 mb2 lb2 k2 s2
  f1 : ∀ x, ftb p1 tp1 lv1 mb1 lb1 x → w.heap.size ≤ x
  f2 : ∀ x, ftb p2 tp2 lv2 mb2 lb2 x → w.heap.size ≤ x ∧ ¬ ftb p1 tp1 lv1 mb1 lb1 x
  grew : Grew w wr
section
variable {w wr u1 u2 : World} {p1 tp1 : Nat} {lv1 lv' : Value} {mb1 lb1 k1 k' : Nat} {s1 s' : PB} {p2 tp2 : Nat} {lv2 : Value} {mb2 lb2 k2 : Nat} {s2 : PB}
theorem TwoE.keep (h : TwoE w p1 tp1 lv1 mb1 lb1 k1 s1 p2 tp2 lv2 mb2 lb2 k2 s2 wr) (hg : Grew wr u1) : TwoE w p1 tp1 lv1 mb1 lb1 k1 s1 p2 tp2 lv2 mb2 lb2 k2 s2 u1 :=
  ⟨h.b1.keep hg, h.b2.keep hg, h.f1, h.f2, h.grew.tr hg⟩
theorem TwoE.mono1 (h : TwoE w p1 tp1 lv1 mb1 lb1 k1 s1 p2 tp2 lv2 mb2 lb2 k2 s2 wr) (hk : k1 ≤ k') (hk2 : k' ≤ 1000) : TwoE w p1 tp1 lv1 mb1 lb1 k' s1 p2 tp2 lv2 mb2 lb2 k2 s2 wr :=
  ⟨h.b1.mono hk hk2, h.b2, h.f1, h.f2, h.grew⟩
/-- The first Book's call. -/
theorem TwoE.one (h : TwoE w p1 tp1 lv1 mb1 lb1 k1 s1 p2 tp2 lv2 mb2 lb2 k2 s2 wr) (hg : Grew wr u1) (hc : Chg (ftb p1 tp1 lv1 mb1 lb1) u1 u2) (hb : BookI u2 p1 tp1 lv' mb1 lb1 k' s') (hf : ∀ b, ftb p1 tp1 lv' mb1 lb1 b → ftb p1 tp1 lv1 mb1 lb1 b ∨ u1.heap.size ≤ b) : TwoE w p1 tp1 lv' mb1 lb1 k' s' p2 tp2 lv2 mb2 lb2 k2 s2 u2 := by
  have hgw := h.grew.tr hg
  refine ⟨hb, (h.b2.keep hg).chg hc (fun b hb hF => (h.f2 b hb).2 hF) (h.b1.keep hg).noH, fun x hx => ?_, fun x hx => ⟨(h.f2 x hx).1, fun h2 => ?_⟩, grew_chg hgw hc h.f1⟩
  · rcases hf x hx with h1 | h1
    · exact h.f1 x h1
    · have := hgw.size; omega
  · rcases hf x h2 with h1 | h1
    · exact (h.f2 x hx).2 h1
    · have := h.b2.lt hx
      have := hg.size
      omega
/-- The second Book's call. -/
theorem TwoE.two (h : TwoE w p1 tp1 lv1 mb1 lb1 k1 s1 p2 tp2 lv2 mb2 lb2 k2 s2 wr) (hg : Grew wr u1) (hc : Chg (ftb p2 tp2 lv2 mb2 lb2) u1 u2) (hb : BookI u2 p2 tp2 lv' mb2 lb2 k' s') (hf : ∀ b, ftb p2 tp2 lv' mb2 lb2 b → ftb p2 tp2 lv2 mb2 lb2 b ∨ u1.heap.size ≤ b) : TwoE w p1 tp1 lv1 mb1 lb1 k1 s1 p2 tp2 lv' mb2 lb2 k' s' u2 := by
  have hgw := h.grew.tr hg
  refine ⟨(h.b1.keep hg).chg hc (fun b hb hF => (h.f2 b hF).2 hb) (h.b2.keep hg).noH, hb, h.f1, fun x hx => ?_, grew_chg hgw hc (fun b hb => (h.f2 b hb).1)⟩
  rcases hf x hx with h1 | h1
  · exact h.f2 x h1
  · refine ⟨by have := hgw.size; omega, fun h2 => ?_⟩
    have := h.b1.lt h2
    have := hg.size
    omega
end
/-- A row of events changes. -/
theorem BookI.evs {w w' : World} {p tp : Nat} {lv : Value} {mb lb k : Nat} {s : PB} {F : Nat → Prop} (h : BookI w p tp lv mb lb k s) (hc : Chg F w w') (hF : ∀ b, F b → ∃ cs fr, w.heap[b]? = some (.cells cs 34 fr)) : BookI w' p tp lv mb lb k s :=
  h.chg hc (fun b hb hFb => by obtain ⟨cs, fr, hm⟩ := hF b hFb; exact h.other hm (by decide) (by decide) (by decide) hb) (fun b cs fr hk hFb => by
    obtain ⟨cs', fr', hm⟩ := hF b hFb
    rw [hk] at hm
    simp only [Option.some.injEq, Obj.cells.injEq] at hm
    exact absurd hm.2.1 (by decide))
theorem TwoE.evs {w wr u : World} {p1 tp1 : Nat} {lv1 : Value} {mb1 lb1 k1 : Nat} {s1 : PB} {p2 tp2 : Nat} {lv2 : Value} {mb2 lb2 k2 : Nat} {s2 : PB} {F : Nat → Prop} (h : TwoE w p1 tp1 lv1 mb1 lb1 k1 s1 p2 tp2 lv2 mb2 lb2 k2 s2 wr) (hc : Chg F wr u) (hF : ∀ b, F b → ∃ cs fr, wr.heap[b]? = some (.cells cs 34 fr)) (hw : ∀ b, F b → w.heap.size ≤ b) : TwoE w p1 tp1 lv1 mb1 lb1 k1 s1 p2 tp2 lv2 mb2 lb2 k2 s2 u :=
  ⟨h.b1.evs hc hF, h.b2.evs hc hF, h.f1, h.f2, grew_chg h.grew hc hw⟩
theorem bput_no (p tp : Nat) (lv : Value) (mb lb k : Nat) (s : PB) (x : Ev) (A : Option Addr) (n c : Nat) (A0 : Option Addr) (n0 d0 : Nat) (w : World) (hB : BookI w p tp lv mb lb k s) (hr : RdH w A n x.hs) (hA : A = none → n = 0 ∧ c = 0) (hn : n ≤ 1000) (hno : goodE x = false ∨ x.ti < s.ti) :
    Calls Try.prog 14 #[.pointer (some ⟨p, 0, none⟩), .slice A0 n0 d0, evV x A n c] w fun e w' => ∃ er, e = .returned (.tuple #[.slice none 0 0, .int .i64 er]) ∧ er ≠ 0 ∧ Grew w w' := by
  by_cases hg : goodE x = true
  · have hl : x.ti < s.ti := hno.elim (fun h => by rw [hg] at h; cases h) id
    refine Calls.mono (bput_late p tp lv mb lb k s x A n c A0 n0 d0 w hB hr hA hn hg hl) ?_
    rintro e w' ⟨rfl, hg2⟩
    exact ⟨9, rfl, by decide, hg2⟩
  · have hg : goodE x = false := by simpa using hg
    refine Calls.mono (bput_bad p tp lv mb lb k s x A n c A0 n0 d0 w hB hr hA hn hg) ?_
    rintro e w' ⟨rfl, hg2⟩
    exact ⟨4, rfl, by decide, hg2⟩
theorem ev_info : (Try.prog.info? 34).map (fun i => (i.zero, i.size, i.bytes)) = some (some (.agg #[.int .i64 0, .int .i64 0, .int .i64 0, .string { data := #[] }, .string { data := #[] }, .slice none 0 0, .string { data := #[] }, .int .i64 0, .int .i64 0, .bool false, .string { data := #[] }, .int .u64 0]), 12, 144) := by kernel_rfl
theorem ev_new (w : World) (r : Evr) (T : TypeId) : RdV 12 (w.alloc (.cells (evA r.1 r.2.1 r.2.2.1 r.2.2.2) T)) (some ⟨w.heap.size, 0, none⟩) 1 (ecs [r]) := by
  have hb := heap_alloc_new w (.cells (evA r.1 r.2.1 r.2.2.1 r.2.2.2) T)
  refine ⟨rfl, fun _ => ⟨_, 0, rfl, fun j u hj => ?_⟩⟩
  have e : ecs [r] = (evA r.1 r.2.1 r.2.2.1 r.2.2.2).toList := by simp [ecs]
  rw [e] at hj
  rw [Nat.zero_add]
  simp only [World.cell?, hb]
  simpa using hj
theorem ecs_one (r : Evr) : ∀ u ∈ ecs [r], u.oneCell' = true := by
  intro u hu
  have e : ecs [r] = (evA r.1 r.2.1 r.2.2.1 r.2.2.2).toList := by simp [ecs]
  rw [e] at hu
  simp [evA] at hu
  rcases hu with rfl | rfl | rfl | rfl | rfl | rfl | rfl | rfl | rfl | rfl | rfl | rfl <;> rfl
end Go.Proofs.Ytbkcpgaicoagfaa
