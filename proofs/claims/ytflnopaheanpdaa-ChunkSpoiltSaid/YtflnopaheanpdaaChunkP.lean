/- Chunk: the walk of slices.Chunk and of its closure. -/
import Derived.Test.YtflnopaheanpdaaChunkR
import Derived.RangeFuncBox
import Derived.RangeFuncLeaves
import Derived.RangeFuncWrites
import Derived.Shelf.Abstract
import Derived.OwnWalkIn
import Derived.TacticsInMore
import Derived.LoopNIn
import Derived.LoopIn
set_option linter.unusedVariables false
set_option linter.unusedSimpArgs false
namespace Go.Proofs.Ytflnopaheanpdaa
open Go.RowKit Go.Shelf
attribute [local go_sem] Oper.semAt_some

def pcN (n k : Nat) : Nat := min 256 (n - 256 * k)
def pcV (A : Option Addr) (n k : Nat) : Value := .slice (A.map (·.add (256 * k))) (pcN n k) (pcN n k)

theorem pc_rd {w : World} {A : Option Addr} {n : Nat} {xs : List Int} (h : Rd w A n xs) (k : Nat) : Rd w (A.map (·.add (256 * k))) (pcN n k) ((xs.drop (256 * k)).take 256) := by
  by_cases hk : 256 * k < n
  · have h1 := (h.drop1 hk).take (i := pcN n k) (by unfold pcN; omega)
    have e : (xs.drop (256 * k)).take 256 = (xs.drop (256 * k)).take (pcN n k) := by
      unfold pcN
      rcases Nat.le_total 256 (n - 256 * k) with h2 | h2
      · rw [Nat.min_eq_left h2]
      · rw [Nat.min_eq_right h2, List.take_of_length_le (by rw [List.length_drop, h.len]; exact h2), List.take_of_length_le (by rw [List.length_drop, h.len]; exact Nat.le_refl _)]
    rw [e]
    exact h1
  · have e : (xs.drop (256 * k)) = [] := List.drop_of_length_le (by rw [h.len]; omega)
    have e2 : pcN n k = 0 := by unfold pcN; omega
    rw [e, e2]
    exact RdK.nil _ _ _

theorem cut_lhm (A : Option Addr) (n c l h : Nat) (hl : l < h) (hh : h ≤ n) (hc : n ≤ c) :
    ∀ W : World, (Instr.slice 28 (.slice A n c) (some (.int .i64 (l : Int))) (some (.int .i64 (h : Int))) (some (.int .i64 (h : Int)))).run Try.prog W = .ok (.slice (A.map (·.add l)) (h - l) (h - l)) W := by
  intro W
  have hu : Try.prog.underlying 28 = some (.slice (Try.prog.elem 28)) := by rw [elem8]; exact Try.underlying28
  rw [run_slice_lhm W 28 A n c hu .i64 .i64 .i64 (l : Int) (h : Int) (h : Int) (Int.natCast_nonneg _) (by omega) (by omega) (by omega), elem8]
  simp [size8, sliced, Result.andThen, show ¬ (h = l) by omega]

theorem chunkf_any (A : Option Addr) (n c : Nat) (w : World) :
    Calls Try.prog 39 #[.slice A n c, .int .i64 256] w fun e w' => e = .returned (.func (.func 44) #[] #[.pointer (some ⟨w.heap.size, 0, none⟩), .pointer (some ⟨w.heap.size + 1, 0, none⟩)]) ∧
      w' = (w.alloc (.cells #[.slice A n c] 28)).alloc (.cells #[.int .i64 256] 3) := by
  go_enter Try.func39, Try.ntmps39
  go_wp2
  go_ret
  exact ⟨rfl, rfl⟩

def KpC (b1 b2 : Nat) (A B : World) : Prop := B.heap[b1]? = A.heap[b1]? ∧ B.heap[b2]? = A.heap[b2]?
theorem Grew.by_ {w w' : World} (h : Grew w w') : w.grownBy w' none := ⟨h.os, h.tape, h.output, h.size, fun k hk _ => h.block k hk⟩
theorem cell_of_heap1 {w : World} {b : Nat} {v : Value} {t : TypeId} (h : w.heap[b]? = some (.cells #[v] t)) : w.cell? ⟨b, 0, none⟩ = some v := by simp [World.cell?, h]

set_option maxRecDepth 100000 in
set_option maxHeartbeats 1600000 in
theorem chunk1_in (m : Nat) (hm : 1 ≤ m) (l b1 b2 : Nat) (A : Option Addr) (n c : Nat) (hnc : n ≤ c) (hn : n ≤ 1000000) (J Jx : List Nat → World → Prop) (B0 : Nat) (hJ : AbidesFrom B0 J)
    (hY : ∀ pre x W, J pre W → pre.length < (n + 255) / 256 → YieldAt Fence.wide (m - 1) Try.prog l #[pcV A n x] W fun e W' => (e = .returned (.bool true) ∧ J (pre ++ [x]) W' ∧ KpC b1 b2 W W') ∨ (e = .returned (.bool false) ∧ Jx (pre ++ [x]) W'))
    (W : World) (h1 : W.heap[b1]? = some (.cells #[.slice A n c] 28)) (h2 : W.heap[b2]? = some (.cells #[.int .i64 256] 3)) (h0 : J [] W) :
    CallsIn Fence.wide m Try.prog 44 #[.func (.yield l) #[] #[], .pointer (some ⟨b1, 0, none⟩), .pointer (some ⟨b2, 0, none⟩)] W fun e W' => (∃ v, e = .returned v) ∧ ((∃ xs, xs = List.range ((n + 255) / 256) ∧ J xs W') ∨ (∃ pre, True ∧ Jx pre W')) := by
  refine callsIn_of_wp Try.func44 rfl trivial ?_ rfl
  simp only [Try.ntmps44, List.size_toArray, List.length_cons, List.length_nil, Nat.reduceAdd, Nat.reduceSub, Array.replicate_succ, Array.replicate_zero, List.push_toArray, List.append_toArray, List.nil_append, List.cons_append]
  gi_wp2
  gi_loopw [4] (fun i wr => ∃ k : Nat, i = .int .i64 (256 * (k : Int)) ∧ 256 * k < n + 256 ∧ J (List.range k) wr ∧ wr.heap[b1]? = some (.cells #[.slice A n c] 28) ∧ wr.heap[b2]? = some (.cells #[.int .i64 256] 3)) (fun i _ => n + 256 - (intOf i).toNat)
  case atStart => exact ⟨0, by simp, by omega, h0, h1, h2⟩
  case round =>
    obtain ⟨k, rfl, hk, hJk, hb1, hb2⟩ := hrel
    have hc1 := cell_of_heap1 hb1
    have hc2 := cell_of_heap1 hb2
    by_cases hlt : 256 * k < n
    · obtain ⟨q, hq⟩ : ∃ q, n - 256 * k = q := ⟨_, rfl⟩
      obtain ⟨p, hp⟩ : ∃ p, pcN n k = p := ⟨_, rfl⟩
      have hpq : min 256 q = p := by rw [← hp, ← hq]; rfl
      have hmin : min (256 : Int) (q : Int) = (p : Int) := by omega
      have hp0 : 0 < p ∧ 256 * k + p ≤ n := by omega
      have hlt2 : (decide ((256 : Int) * (k : Int) < (n : Int))) = true := decide_eq_true (by omega)
      obtain ⟨A1, hcut1, _⟩ := cut_lo (kl := .i64) A n c (256 * k) (by omega) hnc
      rw [show ((256 * k : Nat) : Int) = 256 * (k : Int) by omega, hq] at hcut1
      have hcut2 := cut_lhm A n c (256 * k) (256 * k + p) (by omega) hp0.2 hnc
      rw [show ((256 * k + p : Nat) : Int) = 256 * (k : Int) + (p : Int) by omega, show ((256 * k : Nat) : Int) = 256 * (k : Int) by omega, show 256 * k + p - 256 * k = p by omega] at hcut2
      have hY2 := fun u hu => hY (List.range k) k u hu (by rw [List.length_range]; omega)
      unfold pcV at hY2
      rw [hp] at hY2
      have HY := Lib.hid hY2
      have HJ := Lib.hid hJ
      clear hY hY2 hJ hpq hq hp
      gi_wp2_with fail
      refine wpIn_wide.2 ?_
      refine region_grew [[], [], [], [(1, 14), (2, 15)], [(3, 16)], [(0, 13), (4, 17)], [(5, 18)]] [(0, 13), (1, 14), (2, 15), (3, 16), (4, 17), (5, 18), (6, 5)] (fun
        | 0 => .eqv (.int .i64 256) | 1 => .eqv (.slice A n c) | 2 => .eqv (.int .i64 (256 * (k : Int))) | 3 => .eqv (.slice A1 q (c - 256 * k)) | 4 => .eqv (.int .i64 (q : Int)) | 5 => .eqv (.int .i64 (p : Int)) | 6 => .eqv (.int .i64 (p : Int)) | _ => .any) (by kernel_rfl) ?_ ?_
      · refine ⟨fun u hu => ?_, fun u hu => ?_, fun u hu => ?_, fun u hu => ?_, fun u hu => ?_, fun u hu => ?_, fun u hu => ?_, trivial⟩
        · have hc2' := hu.ce hc2
          refine StepGoal.nil ?_
          go_wp2
          exact ⟨rfl, rfl, Grew.rf _, rfl⟩
        · have hc1' := hu.ce hc1
          refine StepGoal.nil ?_
          go_wp2
          exact ⟨rfl, rfl, Grew.rf _, rfl⟩
        · refine StepGoal.nil ?_
          go_wp2
          exact ⟨rfl, rfl, Grew.rf _, rfl⟩
        · rintro _ rfl _ rfl
          refine StepGoal.nil ?_
          simp only [Act.put, List.setIfInBounds_toArray, List.set_cons_zero, List.set_cons_succ]
          go_wp2
          exact ⟨rfl, rfl, Grew.rf _, rfl⟩
        · rintro _ rfl
          refine StepGoal.nil ?_
          simp only [Act.put, List.setIfInBounds_toArray, List.set_cons_zero, List.set_cons_succ]
          go_wp2
          exact ⟨rfl, rfl, Grew.rf _, rfl⟩
        · rintro _ rfl _ rfl
          refine StepGoal.nil ?_
          simp only [Act.put, List.setIfInBounds_toArray, List.set_cons_zero, List.set_cons_succ]
          go_wp2
          exact ⟨rfl, rfl, Grew.rf _, rfl⟩
        · rintro _ rfl
          refine StepGoal.nil ?_
          simp only [Act.put, List.setIfInBounds_toArray, List.set_cons_zero, List.set_cons_succ]
          go_wp2
          exact ⟨rfl, rfl, Grew.rf _, rfl⟩
      · intro u hu
        rintro _ rfl _ rfl _ rfl _ rfl _ rfl _ rfl _ rfl
        refine StepGoal.nil ?_
        simp only [Act.put, List.setIfInBounds_toArray, List.set_cons_zero, List.set_cons_succ]
        have hJu := HJ.out _ _ _ none hJk hu.by_ (fun r e => by cases e)
        have hb1u := (hu.block b1 (Array.getElem?_eq_some_iff.1 hb1).1).trans hb1
        have hb2u := (hu.block b2 (Array.getElem?_eq_some_iff.1 hb2).1).trans hb2
        have hcu1 := cell_of_heap1 hb1u
        have hcu2 := cell_of_heap1 hb2u
        obtain ⟨fn, tmps, assign, body, hy, hR⟩ := HY.out u hJu
        gi_wp2
        refine hR.mono ?_
        rintro e W3 (⟨rfl, hJ3, hk3⟩ | ⟨rfl, hJx3⟩)
        · have hb13 := hk3.1.trans hb1u
          have hb23 := hk3.2.trans hb2u
          have hc13 := cell_of_heap1 hb13
          have hc23 := cell_of_heap1 hb23
          gi_wp2
          go_roundw
          case rel => exact ⟨k + 1, by go_num, by omega, by rw [List.range_succ]; exact hJ3, hb13, hb23⟩
          case measure => simp [intOf]; omega
        · gi_wp2
          refine bodyPost_ret (results_none rfl _ _ _) rfl ?_
          exact ⟨⟨_, rfl⟩, .inr ⟨_, trivial, hJx3⟩⟩
    · gi_wp2
      go_end0
      exact ⟨⟨_, rfl⟩, .inl ⟨_, rfl, by rw [show (n + 255) / 256 = k by omega]; exact hJk⟩⟩

/-! ### Pack -/
def pkL (T xs : List Int) (ks : List Nat) : List Int := (ks.map fun k => pieceL T ((xs.drop (256 * k)).take 256)).flatten
theorem pkL_snoc (T xs : List Int) (ks : List Nat) (k : Nat) : pkL T xs (ks ++ [k]) = pkL T xs ks ++ pieceL T ((xs.drop (256 * k)).take 256) := by simp [pkL]
theorem pkL_range (T xs : List Int) : ∀ k, pkL T xs (List.range k) = headF k T xs := by
  intro k
  induction k with
  | zero => rfl
  | succ k ih => rw [List.range_succ, pkL_snoc, ih, headF_snoc]
theorem pieceL_len (T xs : List Int) (h : xs.length ≤ 256) : (pieceL T xs).length ≤ 270 := by
  have h2 := leb_len (v := (xs.length : Int)) (by omega)
  simp only [pieceL, List.length_append, fourB_len]
  omega
theorem pkL_len (T xs : List Int) (ks : List Nat) : (pkL T xs ks).length ≤ 270 * ks.length := by
  induction ks with
  | nil => simp [pkL]
  | cons k ks ih =>
    have h1 := pieceL_len T ((xs.drop (256 * k)).take 256) (by rw [List.length_take]; omega)
    simp only [pkL, List.map_cons, List.flatten_cons, List.length_append, List.length_cons] at *
    omega

/-- What holds between two rounds of Pack's loop. -/
structure PI (w : World) (g : Nat) (T : List Int) (A : Option Addr) (n c : Nat) (zs : List Int) (W : World) : Prop where
  out : ∃ v, W.heap[g + 1]? = some (.cells #[v] 28) ∧ Own W (g + 4) v zs
  tab : TabAt W g T
  b1 : W.heap[g + 2]? = some (.cells #[.slice A n c] 28)
  b2 : W.heap[g + 3]? = some (.cells #[.int .i64 256] 3)
  grew : Grew w W
theorem OwnK.isCells {e : TypeId} {k : IntKind} {w : World} {base : Nat} {v : Value} {xs : List Int} (h : OwnK e k w base v xs) {b : Nat} (hb : v.ownBlock = some b) : ∃ cur t, w.heap[b]? = some (.cells cur t) := by
  rcases h.own.2 with ⟨rfl, _⟩ | ⟨g, cap, cur, rfl, hg, hh, _⟩
  · simp [Value.ownBlock] at hb
  · have : g = b := by simpa [Value.ownBlock] using hb
    subst this
    exact ⟨_, _, hh⟩
theorem heap_keep {w w' : World} {b : Nat} {o : Obj} (hg : Grew w w') (h : w.heap[b]? = some o) : w'.heap[b]? = some o := (hg.block b (Array.getElem?_eq_some_iff.1 h).1).trans h
theorem setCell_heap_other (w : World) (p : Addr) (v : Value) {k : Nat} (h : k ≠ p.block) : (w.setCell p v).heap[k]? = w.heap[k]? := by
  simp [World.setCell, Array.getElem?_modify, Ne.symm h]
theorem setCell_heap1 {w : World} {b : Nat} {v0 : Value} {t : TypeId} (h : w.heap[b]? = some (.cells #[v0] t)) (v : Value) : (w.setCell ⟨b, 0, none⟩ v).heap[b]? = some (.cells #[v] t) := by
  simp [World.setCell, Array.getElem?_modify, h]
theorem setCell_size (w : World) (p : Addr) (v : Value) : (w.setCell p v).heap.size = w.heap.size := by simp [World.setCell]
theorem OwnK.setOther {e : TypeId} {k : IntKind} {w : World} {base : Nat} {v : Value} {xs : List Int} (h : OwnK e k w base v xs) {p : Addr} (hp : p.block < base) (u : Value) : OwnK e k (w.setCell p u) base v xs :=
  h.kept (row := some p.block) ⟨rfl, rfl, rfl, by rw [setCell_size]; exact Nat.le_refl _, fun k _ hk => setCell_heap_other _ _ _ (fun e => hk (by rw [e]))⟩ (fun b hb he => by cases hb; have := h.base_le _ he; omega)
theorem pieceL_byt {T xs : List Int} (hW : Wrd T) (h : Byt xs) (hl : xs.length ≤ 256) : Byt (pieceL T xs) :=
  Byt.app (Byt.app (leb_byte (show (0 : Int) ≤ (xs.length : Int) by omega)) h) (fourB_byt (cSum_lt hW _))
theorem headF_byt {T : List Int} (hW : Wrd T) : ∀ (k : Nat) {xs : List Int}, Byt xs → Byt (headF k T xs) := by
  intro k
  induction k with
  | zero => intro xs h x hx; simp [headF] at hx
  | succ k ih => intro xs h; exact (pieceL_byt hW (h.take _) (by rw [List.length_take]; omega)).app (ih (h.drop _))
theorem PI.from {w W W' : World} {g : Nat} {T : List Int} {A : Option Addr} {n c : Nat} {zs : List Int} {row : Option Nat} (h : PI w g T A n c zs W) (hs : w.heap.size ≤ g) (hg : W.grownBy W' row) (hr : ∀ r, row = some r → g + 4 ≤ r ∧ ∃ o : Obj, W.heap[r]? = some o ∧ o.isCells = false) : PI w g T A n c zs W' := by
  have hk : ∀ b o, b < g + 4 → W.heap[b]? = some o → W'.heap[b]? = some o := fun b o hb ho => (hg.block b (Array.getElem?_eq_some_iff.1 ho).1 (fun e => by have := (hr b e.symm).1; omega)).trans ho
  obtain ⟨v, hv, ho⟩ := h.out
  refine ⟨⟨v, hk _ _ (by omega) hv, ho.kept hg (fun b hb he => ?_)⟩, ⟨h.tab.len, hk _ _ (by omega) h.tab.heap⟩, hk _ _ (by omega) h.b1, hk _ _ (by omega) h.b2, h.grew.grown hg h.grew.size (fun k e => by have := (hr k e).1; omega)⟩
  obtain ⟨cur, t, hc⟩ := ho.isCells he
  obtain ⟨_, o, h1, h2⟩ := hr b hb
  rw [hc] at h1
  cases h1
  cases h2

set_option maxRecDepth 100000 in
set_option maxHeartbeats 1600000 in
theorem cpack_any (T : List Int) (hT : T.length = 256) (hW : Wrd T) (A : Option Addr) (n c : Nat) (xs : List Int) (w : World) (hr : Rd w A n xs) (hb : Byt xs) (hn : n ≤ 1000000) (hnc : n ≤ c) :
    Calls Try.prog 33 #[tabV T, .slice A n c] w fun e w' => ∃ v, e = .returned v ∧ Own w' w.heap.size v (packL T xs) ∧ Grew w w' := by
  refine (callsIn_wide (n := 3)).1 ?_
  refine callsIn_of_wp_marks Try.func33 rfl trivial ?_ rfl
  refine wpIn_wide.2 ?_
  simp only [Try.ntmps33, List.size_toArray, List.length_cons, List.length_nil, Nat.reduceAdd, Nat.reduceSub, Array.replicate_succ, Array.replicate_zero, List.push_toArray, List.append_toArray, List.nil_append, List.cons_append]
  go_wp2_with (first | (refine tab_box rfl rfl rfl hT ?_; intro HT) | (go_at_call 39; refine Calls.mono (chunkf_any _ _ _ _) ?_; rintro e w5 ⟨rfl, rfl⟩))
  obtain ⟨g, hgs⟩ : ∃ g, w.heap.size = g := ⟨_, rfl⟩
  have hPI0 : PI w g T A n c [] ((((w.alloc (.cells (nums .u32 T).toArray 24)).alloc (.cells #[.slice none 0 0] 28)).alloc (.cells #[.slice A n c] 28)).alloc (.cells #[.int .i64 256] 3)) := by
    refine ⟨⟨.slice none 0 0, ?_, OwnK.nil _ _ _ _⟩, hgs ▸ HT.keep ((((Grew.rf _).al _).al _).al _), ?_, ?_, ((((Grew.rf w).al _).al _).al _).al _⟩
    · have h := heap_alloc_new (w.alloc (.cells (nums .u32 T).toArray 24)) (.cells #[.slice none 0 0] 28)
      rw [World.size_alloc, hgs] at h
      exact heap_keep (((Grew.rf _).al _).al _) h
    · have h := heap_alloc_new ((w.alloc (.cells (nums .u32 T).toArray 24)).alloc (.cells #[.slice none 0 0] 28)) (.cells #[.slice A n c] 28)
      rw [World.size_alloc, World.size_alloc, hgs] at h
      exact heap_keep ((Grew.rf _).al _) h
    · have h := heap_alloc_new (((w.alloc (.cells (nums .u32 T).toArray 24)).alloc (.cells #[.slice none 0 0] 28)).alloc (.cells #[.slice A n c] 28)) (.cells #[.int .i64 256] 3)
      rw [World.size_alloc, World.size_alloc, World.size_alloc, hgs] at h
      exact h
  have hs5 : ((((w.alloc (.cells (nums .u32 T).toArray 24)).alloc (.cells #[.slice none 0 0] 28)).alloc (.cells #[.slice A n c] 28)).alloc (.cells #[.int .i64 256] 3)).heap.size = g + 4 := by simp [hgs]
  rw [hgs] at HT ⊢
  simp only [Nat.add_assoc, Nat.reduceAdd]
  obtain ⟨w5, hw5⟩ : ∃ w5, (((w.alloc (.cells (nums .u32 T).toArray 24)).alloc (.cells #[.slice none 0 0] 28)).alloc (.cells #[.slice A n c] 28)).alloc (.cells #[.int .i64 256] 3) = w5 := ⟨_, rfl⟩
  rw [hw5] at hPI0 hs5 ⊢
  clear hw5 HT
  have hseq : SeqStopsK Fence.wide (3 - 1) Try.prog 44 #[.pointer (some ⟨g + 2, 0, none⟩), .pointer (some ⟨g + 3, 0, none⟩)] (fun k => #[pcV A n k]) (KpC (g + 2) (g + 3)) (fun ys => ys = List.range ((n + 255) / 256)) (fun _ => True) ((n + 255) / 256) w5 :=
    fun l J Jx W hW hJ _ hY h0 => chunk1_in 2 (by omega) l (g + 2) (g + 3) A n c hnc hn J Jx _ hJ hY W ((hW.block _ (by omega)).trans hPI0.b1) ((hW.block _ (by omega)).trans hPI0.b2) h0
  refine (wpIn_wide (n := 3)).1 ?_
  refine wpIn_rangeFunc_ownG rfl (by omega) (gf := 44) (lb := #[.pointer (some ⟨g + 2, 0, none⟩), .pointer (some ⟨g + 3, 0, none⟩)]) rfl trivial (enters_of Try.func44 (by kernel_rfl) rfl) hseq
    (fun h k => ⟨k.1.trans h.1, k.2.trans h.2⟩) (fun W l o o' hl _ _ _ => ⟨World.putObj_heap_other (by omega), World.putObj_heap_other (by omega)⟩) (Below.refl _ _) (fun _ => rfl)
    (fun pre W => PI w g T A n c (pkL T xs pre) W) (fun _ _ _ => False)
    (fun s W W' row hs hg hr => hs.from (by omega) hg (fun r e => by have := hr r e; rw [hs5] at this; exact this))
    (fun _ _ _ _ _ hs _ _ => hs) hPI0
    (fun x => { tmps := #[tabV T, .slice A n c, .pointer (some ⟨g, 0, none⟩), undef, .slice none 0 0, .pointer (some ⟨g + 1, 0, none⟩), pcV A n x, .slice A n c, .func (.func 44) #[] #[.pointer (some ⟨g + 2, 0, none⟩), .pointer (some ⟨g + 3, 0, none⟩)], pcV A n x, undef, undef, undef, undef, undef, undef, undef, undef, undef, undef], defers := [] }) ?assign ?body ?done ?stop
  case assign =>
    intro l x W K hK
    gi_wp2
    exact hK
  case stop =>
    rintro D c pre W _ _ h _
    exact h.elim
  case body =>
    rintro l pre x W hI hlen
    obtain ⟨v, hv, hO⟩ := hI.out
    have hrd := pc_rd (hr.keep hI.grew) x
    have hbp : Byt ((xs.drop (256 * x)).take 256) := fun y hy => hb y (List.mem_of_mem_drop (List.mem_of_mem_take hy))
    have hcx := cell_of_heap1 hv
    have hpl := pkL_len T xs pre
    have hsn := pkL_snoc T xs pre x
    have hppl := pieceL_len T ((xs.drop (256 * x)).take 256) (by rw [List.length_take]; omega)
    have hpn : pcN n x ≤ 256 := by unfold pcN; omega
    generalize pkL T xs pre = zs at *
    generalize (xs.drop (256 * x)).take 256 = ps at *
    have hpc := fun u (hg : Grew W u) => piece_any T hT hW _ _ (pcN n x) ps u (hrd.keep hg) hbp (by omega)
    generalize pieceL T ps = qs at *
    have hlz : zs.length ≤ 270000 * 270 := by
      have : (n + 255) / 256 ≤ 270000 := by omega
      have : 270 * pre.length ≤ 270 * 270000 := Nat.mul_le_mul_left _ (by omega)
      omega
    have hsz := hI.grew.size
    have hgW : g + 4 ≤ W.heap.size := by have := (Array.getElem?_eq_some_iff.1 hI.b2).1; omega
    have HSN := Lib.hid hsn
    have HPC := Lib.hid hpc
    clear hsn hpc hpl
    obtain ⟨A6, c6, rfl, _, _, hr6⟩ := hO.rd
    unfold pcV
    generalize pcN n x = pn at *
    gi_wp2_with fail
    refine region_split_in (by kernel_rfl) ?hq 4 [[], [], [], [(1, 11), (2, 12)], [(0, 10), (1, 11), (2, 12), (3, 13)], [(0, 10), (1, 11), (2, 12), (3, 13), (4, 14)]] [(0, 10), (1, 11), (2, 12), (3, 13)] (fun
      | 0 => .eqv (.slice A6 zs.length c6) | 1 => .eqv (tabV T) | 2 => .eqv (.slice (A.map (·.add (256 * x))) pn pn) | 3 => .own W.heap.size qs | _ => .any) (by kernel_rfl) ?_ ?_
    case hq => rintro ⟨_, _, h⟩; exact h
    · refine ⟨fun u hu => ?_, fun u hu => ?_, fun u hu => ?_, fun u hu => ?_, trivial⟩
      · have hcx' := hu.ce hcx
        refine StepGoal.nil ?_
        go_wp2
        exact ⟨rfl, rfl, Grew.rf _, rfl⟩
      · refine StepGoal.nil ?_
        go_wp2_with (refine tab_load2 (.inr rfl) rfl rfl (hI.tab.keep hu) ?_)
        exact ⟨rfl, rfl, Grew.rf _, rfl⟩
      · refine StepGoal.nil ?_
        go_wp2
        exact ⟨rfl, rfl, Grew.rf _, rfl⟩
      · rintro _ rfl _ rfl
        refine StepGoal.nil ?_
        simp only [Act.put, List.setIfInBounds_toArray, List.set_cons_zero, List.set_cons_succ]
        go_wp2_with (go_at_call 40; refine Calls.mono (HPC.out _ hu) ?_; rintro e w' ⟨x, rfl, ho, hg⟩)
        exact ⟨rfl, rfl, hg, ho.lower hu.size⟩
    · intro u hu
      rintro _ rfl _ rfl _ rfl v13 h13
      refine StepGoal.nil ?_
      simp only [Act.put, List.setIfInBounds_toArray, List.set_cons_zero, List.set_cons_succ]; simp only [List.drop_succ_cons, List.drop_zero]
      obtain ⟨A7, c7, rfl, _, _, hr7⟩ := h13.rd
      have hOu := hO.keep hu
      have hvu := heap_keep hu hv
      refine apps2 (.inl rfl) rfl rfl rfl hOu hr7 (Nat.le_trans hgW hu.size) (by omega) ?_
      intro v1 w1 ho1 hg1 hat1
      have hvb : ∀ b, (Value.slice A6 zs.length c6).ownBlock = some b → g + 4 ≤ b := fun b hb => hOu.base_le b hb
      have hkp : ∀ b o, b < g + 4 → u.heap[b]? = some o → w1.heap[b]? = some o := fun b o hb ho => (hg1.block b (Array.getElem?_eq_some_iff.1 ho).1 (fun e => by have := hvb b e.symm; omega)).trans ho
      have hv1 := hkp _ _ (by omega) hvu
      have hc1 := cell_of_heap1 hv1
      have hf1 : w1.frozen? ⟨g + 1, 0, none⟩ = false := by simp [World.frozen?, hv1]
      have hkc : ∀ b (o : Obj), o.isCells = false → u.heap[b]? = some o → w1.heap[b]? = some o := fun b o hc ho => (hg1.block b (Array.getElem?_eq_some_iff.1 ho).1 (fun e => by obtain ⟨_, _, h2⟩ := hOu.isCells e.symm; rw [ho] at h2; cases h2; cases hc)).trans ho
      have hG1 : Grew w w1 := (hI.grew.tr hu).grown hg1 (Nat.le_trans hsz hu.size) (fun k e => by have := hvb k e; omega)
      have hs1 := hg1.size
      clear hg1 hat1
      obtain ⟨A8, c8, rfl, _, _, hr8⟩ := ho1.rd
      go_wp2
      rw [List.length_append] at ho1
      have hot : ∀ k, k ≠ g + 1 → (w1.setCell ⟨g + 1, 0, none⟩ (.slice A8 (zs.length + qs.length) c8)).heap[k]? = w1.heap[k]? := fun k hk => setCell_heap_other _ _ _ hk
      have hku : ∀ b o, b < g + 4 → b ≠ g + 1 → W.heap[b]? = some o → (w1.setCell ⟨g + 1, 0, none⟩ (.slice A8 (zs.length + qs.length) c8)).heap[b]? = some o := fun b o h1 h2 h3 => (hot b h2).trans (hkp b o h1 (heap_keep hu h3))
      refine ⟨⟨?_, fun k o hB ho hc => (hot k (by omega)).trans (hkc k o hc (heap_keep hu ho))⟩, ⟨?_, ?_⟩, ⟨⟨_, setCell_heap1 hv1 _, ?_⟩, ⟨hT, hku _ _ (by omega) (by omega) hI.tab.heap⟩, hku _ _ (by omega) (by omega) hI.b1, hku _ _ (by omega) (by omega) hI.b2, hG1.st (by simp; omega) _⟩⟩
      · rw [setCell_size]; exact Nat.le_trans hu.size hs1
      · rw [hI.b1]; exact hku _ _ (by omega) (by omega) hI.b1
      · rw [hI.b2]; exact hku _ _ (by omega) (by omega) hI.b2
      · rw [HSN.out]; exact ho1.setOther (by simp) _
  case done =>
    rintro D ys W hD rfl hI hK
    rw [pkL_range] at hI
    obtain ⟨v, hv, hO⟩ := hI.out
    have hcx := cell_of_heap1 hv
    have hdn : packL T xs = headF ((n + 255) / 256) T xs ++ pieceL T [] := packL_done T _ xs (by rw [hr.len]; omega) (by rw [hr.len]; omega)
    have hhb := headF_byt hW ((n + 255) / 256) hb
    have hhl := headF_len T ((n + 255) / 256) xs
    have hql := pieceL_len T [] (by decide)
    have hqb := pieceL_byt hW (xs := []) (byt_of rfl) (by decide)
    have hpc := fun u => piece_any T hT hW none 0 0 [] u (RdK.nil _ _ _) (byt_of rfl) (by decide)
    generalize headF ((n + 255) / 256) T xs = hs at *
    generalize pieceL T [] = qs at *
    have hhl2 : hs.length ≤ 10000000 := by
      have : (n + 255) / 256 ≤ 4000 := by omega
      have : 270 * ((n + 255) / 256) ≤ 270 * 4000 := Nat.mul_le_mul_left _ (by omega)
      omega
    have hct := fun (u : World) A2 c2 (hP : Parts u A2 2 [hs, qs]) => concat_any A2 2 c2 [hs, qs] u hP (by decide) (by simp only [List.flatten_cons, List.flatten_nil, List.length_append, List.length_nil]; omega)
    rw [show [hs, qs].flatten = hs ++ qs by simp] at hct
    have HPC := Lib.hid hpc
    have HCT := Lib.hid hct
    have HDN := Lib.hid hdn
    clear hpc hct hdn hhl
    obtain ⟨A6, c6, rfl, _, _, hr6⟩ := hO.rd
    go_wp2_with fail
    refine region_grew [[], [], [(1, 16)], [(0, 15), (2, 17)], [(3, 18)], [(4, 19)]] [(0, 15), (1, 16), (2, 17), (3, 18), (4, 19), (5, 4)] (fun
      | 0 => .eqv (.slice A6 hs.length c6) | 1 => .eqv (tabV T) | 2 => .own W.heap.size qs | 3 => .parts 2 [hs, qs] | 4 => .own W.heap.size (hs ++ qs) | 5 => .own W.heap.size (hs ++ qs) | _ => .any) (by kernel_rfl) ?_ ?_
    · refine ⟨fun u hu => ?_, fun u hu => ?_, fun u hu => ?_, fun u hu => ?_, fun u hu => ?_, fun u hu => ?_, trivial⟩
      · have hcx' := hu.ce hcx
        refine StepGoal.nil ?_
        go_wp2
        exact ⟨rfl, rfl, Grew.rf _, rfl⟩
      · refine StepGoal.nil ?_
        go_wp2_with (refine tab_load2 (.inr rfl) rfl rfl (hI.tab.keep hu) ?_)
        exact ⟨rfl, rfl, Grew.rf _, rfl⟩
      · rintro _ rfl
        refine StepGoal.nil ?_
        simp only [Act.put, List.setIfInBounds_toArray, List.set_cons_zero, List.set_cons_succ]
        go_wp2_with (go_at_call 40; refine Calls.mono (HPC.out _) ?_; rintro e w' ⟨x, rfl, ho, hg⟩)
        exact ⟨rfl, rfl, hg, ho.lower hu.size⟩
      · rintro _ rfl v17 h17
        obtain ⟨A7, c7, rfl, _, _, hr7⟩ := h17.rd
        refine StepGoal.nil ?_
        simp only [Act.put, List.setIfInBounds_toArray, List.set_cons_zero, List.set_cons_succ]
        go_wp2
        exact ⟨rfl, rfl, (Grew.rf _).al _, _, _, rfl, Parts.lit (vs := [_, _]) (PartsAt.cons (hr6.keep hu) (by omega) hhb (PartsAt.cons hr7 (by omega) hqb (PartsAt.nil _))) rfl rfl rfl⟩
      · rintro v18 h18
        obtain ⟨A7, c7, rfl, hp7⟩ := h18
        refine StepGoal.nil ?_
        simp only [Act.put, List.setIfInBounds_toArray, List.set_cons_zero, List.set_cons_succ]
        go_wp2_with (go_at_call 41; refine Calls.mono (HCT.out _ _ _ hp7) ?_; rintro e w' ⟨x, rfl, ho, hg⟩)
        exact ⟨rfl, rfl, hg, ho.lower hu.size⟩
      · rintro v19 h19
        refine StepGoal.nil ?_
        simp only [Act.put, List.setIfInBounds_toArray, List.set_cons_zero, List.set_cons_succ]
        go_wp2
        exact ⟨rfl, rfl, Grew.rf _, h19⟩
    · intro u hu
      rintro _ rfl _ rfl v17 h17 v18 h18 v19 h19 v4 h4
      refine StepGoal.nil ?_
      simp only [Act.put, List.setIfInBounds_toArray, List.set_cons_zero, List.set_cons_succ]
      have hKu := heap_keep hu hK
      go_wp2
      refine ⟨by simp, .inl ⟨_, _, rfl, run_takeDeferred hKu, ?_⟩⟩
      have hgd : u.grownBy (u.putObj D (.deferred none)) (some D) := grownBy_putObj' _ _ _
      refine ⟨_, results_tmp rfl _ _ _, _, rfl, ?_, (hI.grew.tr hu).grown hgd (Nat.le_trans hI.grew.size hu.size) (fun k e => by cases e; omega)⟩
      rw [HDN.out]
      have hws := hI.grew.size
      refine OwnK.kept (OwnK.lower h4 (by omega)) hgd (fun b hb he => ?_)
      cases hb
      obtain ⟨_, _, h2⟩ := OwnK.isCells h4 he
      rw [hKu] at h2
      cases h2
end Go.Proofs.Ytflnopaheanpdaa
