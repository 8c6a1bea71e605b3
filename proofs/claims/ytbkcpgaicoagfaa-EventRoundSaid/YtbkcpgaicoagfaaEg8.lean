/- Intern: the walk of Put. -/
import Derived.Test.YtbkcpgaicoagfaaEg7
import Derived.Test.YtbkcpgaicoagfaaEg6
import Derived.Test.YtbkcpgaicoagfaaReg2
set_option linter.unusedVariables false
set_option linter.unusedSimpArgs false
namespace Go.Proofs.Ytbkcpgaicoagfaa
open Go.RowKit

/-- What a table's Put leaves. -/
structure PutQ (w w' : World) (p : Nat) (lv : Value) (mb : Nat) (out : List Int) (ts' : List ByteArray) (B : Option Addr) (m d : Nat) : Prop where
  rd : Rd w' B m out
  le : m ≤ d
  cap : d ≤ 9223372036854775807
  fresh : FreshA w.heap.size B
  u8 : U8 w' B
  tab : ∃ lv', TabI w' p lv' mb ts' ∧ (∀ k, ftp p lv' mb k → ftp p lv mb k ∨ w.heap.size ≤ k) ∧ ∀ ad, B = some ad → ¬ ftp p lv' mb ad.block
  chg : Chg (ftp p lv mb) w w'

set_option maxRecDepth 100000 in
set_option maxHeartbeats 1600000 in
theorem tput_any (p : Nat) (lv : Value) (mb : Nat) (ts : List ByteArray) (s : ByteArray) (A : Option Addr) (n c : Nat) (bs : List Int) (w : World) (hT : TabI w p lv mb ts) (hr : Rd w A n bs) (hA : 0 < n → ∀ ad, A = some ad → ¬ ftp p lv mb ad.block) (hs : s.size ≤ 1000000) (hn : n ≤ 100000000) (hf : ts.length < 1000000) :
    Calls Try.prog 23 #[.pointer (some ⟨p, 0, none⟩), .slice A n c, .string s] w fun e w' => ∃ B m d, e = .returned (.slice B m d) ∧ PutQ w w' p lv mb (bs ++ (putT ts s).1) (putT ts s).2 B m d := by
  have hcb : w.cell? ⟨p, 1, none⟩ = some (.map (some mb)) := cell_of_heap (i := 1) hT.cells rfl
  have hM := hT.map
  have hT' := Lib.hid hT
  have hle := idxT_le ts s
  unfold putT
  by_cases hz : idxT ts s = 0
  · rw [if_pos hz]
    have htl := fun (u : World) (h : TabI u p lv mb ts) => tell_any p lv mb ts s u h hs hf hz
    have hb0 := leb_len (v := (0 : Int)) (by omega)
    have hb1 := leb_len (v := (s.size : Int)) (by omega)
    have hp0 := fun (u : World) (h : Rd u A n bs) => put_any A n c bs 0 u h (by omega) (by omega) (by omega)
    have hp1 := fun (u : World) (A2 : Option Addr) (n2 c2 : Nat) (h : Rd u A2 n2 (bs ++ leb 0)) (h2 : n2 ≤ 100000100) => put_any A2 n2 c2 (bs ++ leb 0) (s.size : Int) u h (by omega) (by omega) (by omega)
    generalize hl0 : leb (0 : Int) = l0 at *
    generalize hl1 : leb (s.size : Int) = l1 at *
    have hdd : decide (idxT ts s ≠ 0) = false := decide_eq_false (by simp [hz])
    have HTL := Lib.hid htl
    have HP0 := Lib.hid hp0
    have HP1 := Lib.hid hp1
    have HB0 := Lib.hid hb0
    have HB1 := Lib.hid hb1
    have HZ := Lib.hid hz
    have hnl := hr.len
    obtain ⟨n2, hn2⟩ : ∃ n2, (bs ++ l0).length = n2 := ⟨_, rfl⟩
    obtain ⟨n3, hn3⟩ : ∃ n3, (bs ++ l0 ++ l1).length = n3 := ⟨_, rfl⟩
    obtain ⟨n4, hn4⟩ : ∃ n4, (bs ++ l0 ++ l1 ++ bsOf s).length = n4 := ⟨_, rfl⟩
    have hnb : n2 ≤ 100000010 ∧ n3 ≤ 100000020 := by
      simp only [List.length_append] at hn2 hn3
      omega
    have HN2 := Lib.hid hn2
    have HN3 := Lib.hid hn3
    have HN4 := Lib.hid hn4
    clear hn2 hn3 hn4
    clear htl hp0 hp1 hT hb0 hnl hb1 hz hle
    go_enter Try.func23, Try.ntmps23
    go_wp2_with (first | (refine look_num rfl rfl rfl rfl (by omega) hM ?_; rw [hdd]) | (go_at_call 57; refine Calls.mono (HTL.out _ hT'.out) ?_; rintro e w1 ⟨rfl, lv1, hT1, hC1, hF1⟩) | (go_at_call 41; refine Calls.mono (HP1.out _ A2 n2 c2 hr2 (by omega)) ?_; rintro e w3 ⟨v3, rfl, ho3, hg3⟩) | (go_at_call 41; refine Calls.mono (HP0.out _ (hr.chg hC1 hA)) ?_; rintro e w2 ⟨v2, rfl, ho2, hg2⟩; obtain ⟨A2, c2, rfl, hc2, hm2, hr2⟩ := ho2.rd' HN2.out) | ((with_reducible refine gate_b .append #[.tmp 34, .tmp 35] _ rfl ?_); refine appStr rfl rfl rfl rfl ho3 hg3.size (by rw [HN3.out]; omega) ?_; intro v4 w4 ho4 hg4; obtain ⟨A4, c4, rfl, hc4, hm4, hr4⟩ := ho4.rd' HN4.out) | (go_at_call 47; refine Calls.mono (clip_any _ _ _ _ hc4 hm4) ?_; rintro e w' ⟨rfl, rfl⟩))
    go_ret
    have hT3 := hT1.keep (hg2.tr hg3)
    have hlt3 : ∀ k, ftp p lv1 mb k → k < w2.heap.size := fun k hk => Nat.lt_of_lt_of_le (hT1.lt hk) hg2.size
    have hC4 : Chg (fun k => v3.ownBlock = some k) w3 w4 := Chg.ofBy hg4 (fun b hb => hb)
    have hT4 := hT3.chg hC4 (fun k hk he => by have := ho3.base_le k he; have := hlt3 k hk; omega)
    have hws := hC1.size
    refine ⟨_, _, _, rfl, ⟨?_, Nat.le_refl _, by omega, ho4.fresh.mono (by have := hg2.size; omega), ho4.u8, ⟨lv1, hT4, hF1, fun ad e hk => by have := ho4.fresh ad e; have := hlt3 _ hk; omega⟩, ?_⟩⟩
    · rw [show bs ++ (l0 ++ (l1 ++ bsOf s)) = (bs ++ l0 ++ l1) ++ bsOf s by simp]
      exact hr4
    · refine Chg.tr hC1 (Chg.tr (Chg.of (hg2.tr hg3)) (hC4.mono fun k hk => ?_))
      have := ho3.base_le k hk
      have := hg2.size
      exact .inl (.inr (by omega))
  · rw [if_neg hz]
    have hp0 := fun (u : World) (h : Rd u A n bs) => put_any A n c bs (idxT ts s : Int) u h (by omega) (by omega) (by omega)
    have hdd : decide (idxT ts s ≠ 0) = true := decide_eq_true hz
    obtain ⟨n2, hn2⟩ : ∃ n2, (bs ++ leb (idxT ts s : Int)).length = n2 := ⟨_, rfl⟩
    have HN2 := Lib.hid hn2
    have HP0 := Lib.hid hp0
    have HZ := Lib.hid hz
    clear hp0 hT hz hn2
    go_enter Try.func23, Try.ntmps23
    go_wp2_with (first | (refine look_num rfl rfl rfl rfl (by omega) hM ?_; rw [hdd]) | (go_at_call 41; refine Calls.mono (HP0.out _ hr) ?_; rintro e w2 ⟨v2, rfl, ho2, hg2⟩; obtain ⟨A2, c2, rfl, hc2, hm2, hr2⟩ := ho2.rd' HN2.out))
    go_ret
    refine ⟨_, _, _, rfl, ⟨hr2, hc2, hm2, ho2.fresh, ho2.u8, ⟨lv, hT'.out.keep hg2, fun k hk => .inl hk, fun ad e hk => by have := ho2.fresh ad e; have := hT'.out.lt hk; omega⟩, Chg.of hg2⟩⟩
end Go.Proofs.Ytbkcpgaicoagfaa
/- Intern: the walk of Take. -/
set_option linter.unusedVariables false
set_option linter.unusedSimpArgs false
namespace Go.Proofs.Ytbkcpgaicoagfaa
open Go.RowKit

theorem str_size (xs : List Int) : (strOfNums xs).size = xs.length := by simp [strOfNums, ByteArray.size]
theorem take_to4 (A : Option Addr) (n c : Nat) (bs : List Int) (at_ : Int) (v nx e : Int) (he : lebTake bs at_ = (v, nx, e)) (w : World) (hr : Rd w A n bs) (hb : Byt bs) (hnc : n ≤ c) (hn : n ≤ 9223372036854775807) (h0 : -9223372036854775808 ≤ at_) (h1 : at_ ≤ 9223372036854775807) :
    Calls Try.prog 59 #[.slice A n c, .int .i64 at_] w fun ee w' => ee = .returned (.tuple #[.int .u64 v, .int .i64 nx, .int .i64 e]) ∧ w = w' := by
  have := take_any A n c bs at_ w hr hb hnc hn h0 h1
  rw [he] at this
  exact this
/-- What a table's Take leaves. -/
structure TakeQ (w w' : World) (p : Nat) (lv : Value) (mb : Nat) (ts' : List ByteArray) : Prop where
  tab : ∃ lv', TabI w' p lv' mb ts' ∧ ∀ k, ftp p lv' mb k → ftp p lv mb k ∨ w.heap.size ≤ k
  chg : Chg (ftp p lv mb) w w'
theorem TakeQ.same {w : World} {p : Nat} {lv : Value} {mb : Nat} {ts : List ByteArray} (h : TabI w p lv mb ts) : TakeQ w w p lv mb ts := ⟨⟨lv, h, fun k hk => .inl hk⟩, Chg.of (Grew.rf w)⟩

set_option maxRecDepth 100000 in
set_option maxHeartbeats 1600000 in
theorem ttake_any (p : Nat) (lv : Value) (mb : Nat) (ts : List ByteArray) (A : Option Addr) (n c : Nat) (b : List Int) (at_ : Int) (w : World) (hT : TabI w p lv mb ts) (hr : Rd w A n b) (hb : Byt b) (hnc : n ≤ c) (hc : c ≤ 9223372036854775807) (hn : n ≤ 100000000) (hf : ts.length < 1000000) (h0 : -9223372036854775808 ≤ at_) (h1 : at_ ≤ 9223372036854775807) :
    Calls Try.prog 27 #[.pointer (some ⟨p, 0, none⟩), .slice A n c, .int .i64 at_] w fun e w' => e = .returned (.tuple #[.string (takeT ts b at_).1, .int .i64 (takeT ts b at_).2.1, .int .i64 (takeT ts b at_).2.2.1]) ∧ TakeQ w w' p lv mb (takeT ts b at_).2.2.2 := by
  have HT := Lib.hid hT
  have hM := hT.map
  have hcb : w.cell? ⟨p, 1, none⟩ = some (.map (some mb)) := cell_of_heap (i := 1) hT.cells rfl
  have hca0 : w.cell? ⟨p, 0, none⟩ = some lv := cell_of_heap (i := 0) hT.cells rfl
  obtain ⟨AL, cL, hlv, hcL, hmL, hrL⟩ := hT.list.rd
  obtain ⟨⟨v, a1, er⟩, hq⟩ : ∃ r, lebTake b at_ = r := ⟨_, rfl⟩
  have htk := take_to4 A n c b at_ v a1 er hq w hr hb hnc (by omega) h0 h1
  have hca : w.cell? ⟨p, 0, none⟩ = some (.slice AL ts.length cL) := by rw [hca0, hlv]
  have HTK := Lib.hid htk
  have hnl := hr.len
  unfold takeT
  rw [hq]
  simp only
  clear htk hT hca0
  by_cases c1 : er = 0
  · subst c1
    obtain ⟨q0, q1, q2, _, q4, q5⟩ := lebTake_exact hb hq
    rw [hnl] at q2
    rw [if_neg (by simp)]
    clear hq
    by_cases c2 : (ts.length : Int) < v
    · rw [if_pos c2]
      clear hnl hlv hrL hr
      go_enter Try.func27, Try.ntmps27
      go_wp2_with (go_at_call 59; refine Calls.mono HTK.out ?_; rintro e w' ⟨rfl, rfl⟩)
      go_ret3
      exact ⟨rfl, TakeQ.same HT.out⟩
    · rw [if_neg c2]
      by_cases c3 : 0 < v
      · rw [if_pos c3]
        obtain ⟨m, rfl⟩ : ∃ m : Nat, v = (m : Int) + 1 := ⟨(v - 1).toNat, by omega⟩
        have hm : m < ts.length := by omega
        obtain ⟨g, o, rfl, hcl⟩ := hrL.cells (by omega)
        have hgm : ts[m]? = some (ts.getD m ByteArray.empty) := by rw [List.getD_eq_getElem?_getD, List.getElem?_eq_getElem hm]; rfl
        have hce := hcl m (.string (ts.getD m ByteArray.empty)) (by rw [List.getElem?_map, hgm]; rfl)
        rw [show ((m : Int) + 1).toNat - 1 = m by omega]
        obtain ⟨t, ht⟩ : ∃ t, ts.getD m ByteArray.empty = t := ⟨_, rfl⟩
        rw [ht] at hce ⊢
        clear hnl hlv hrL hr hcl hgm ht c3 q0 q1 q2 q4 q5 hn h0 h1 hc hmL hcL
        go_enter Try.func27, Try.ntmps27
        go_wp2_with (go_at_call 59; refine Calls.mono HTK.out ?_; rintro e w' ⟨rfl, rfl⟩)
        go_ret3
        exact ⟨rfl, TakeQ.same HT.out⟩
      · rw [if_neg c3]
        obtain rfl : v = 0 := by omega
        obtain ⟨⟨v2, a2, er2⟩, hq2⟩ : ∃ r, lebTake b a1 = r := ⟨_, rfl⟩
        have htk2 := take_to4 A n c b a1 v2 a2 er2 hq2 w hr hb hnc (by omega) (by omega) (by omega)
        have HTK2 := Lib.hid htk2
        rw [hq2]
        simp only
        clear htk2
        by_cases d1 : er2 = 0
        · subst d1
          obtain ⟨r0, r1, r2, _, r4, r5⟩ := lebTake_exact hb hq2
          rw [hnl] at r2
          rw [if_neg (by simp), hnl]
          clear hq2
          by_cases d2 : 2048 < v2
          · rw [if_pos d2]
            clear hnl hlv hrL hr
            go_enter Try.func27, Try.ntmps27
            go_wp2_with (first | (go_at_call 59; refine Calls.mono HTK.out ?_; rintro e w' ⟨rfl, rfl⟩; clear HTK) | (go_at_call 59; refine Calls.mono HTK2.out ?_; rintro e w' ⟨rfl, rfl⟩))
            go_ret3
            exact ⟨rfl, TakeQ.same HT.out⟩
          · rw [if_neg d2]
            by_cases d3 : (n : Int) < a2 + v2
            · rw [if_pos d3]
              clear hnl hlv hrL hr
              go_enter Try.func27, Try.ntmps27
              go_wp2_with (first | (go_at_call 59; refine Calls.mono HTK.out ?_; rintro e w' ⟨rfl, rfl⟩; clear HTK) | (go_at_call 59; refine Calls.mono HTK2.out ?_; rintro e w' ⟨rfl, rfl⟩))
              go_ret3
              exact ⟨rfl, TakeQ.same HT.out⟩
            · rw [if_neg d3]
              obtain ⟨f, rfl⟩ := Int.eq_ofNat_of_zero_le (show 0 ≤ a2 by omega)
              obtain ⟨m, rfl⟩ := Int.eq_ofNat_of_zero_le r4
              rw [show ((f : Int) + (m : Int)).toNat = f + m by omega, Int.toNat_natCast]
              obtain ⟨A3, hcut3, hA3⟩ := cut_lh (kl := .i64) (kh := .i64) A n c f (f + m) (by omega) (by omega) hnc
              have hr3 := hA3 hr
              rw [show f + m - f = m by omega] at hcut3 hr3
              rw [show ((f + m : Nat) : Int) = (f : Int) + (m : Int) by omega] at hcut3
              obtain ⟨xs, hxs⟩ : ∃ xs, (b.take (f + m)).drop f = xs := ⟨_, rfl⟩
              rw [hxs] at hr3 ⊢
              obtain ⟨s, hs⟩ : ∃ s, strOfNums xs = s := ⟨_, rfl⟩
              have hss : s.size ≤ 2048 := by rw [← hs, str_size, hr3.len]; omega
              have hstr := fun (u : World) (h : Rd u A3 m xs) => RdK.str (c := c - f) h
              rw [hs] at hstr ⊢
              have hstr2 := hstr w hr3
              have hfm : f + m ≤ n := by omega
              have hfn : f + m ≤ 100000000 := by omega
              have hm2 : m ≤ 2048 := by omega
              clear hs hxs hA3 hstr hnl hlv hrL hr hr3 d2 d3 r0 r1 r2 r4 r5 q0 q1 q2 q4 q5 hc h0 h1 hmL hcL c2 c3
              by_cases hz : idxT ts s = 0
              · rw [if_pos hz]
                have htl := tell_any p lv mb ts s w HT.out (by omega) hf hz
                have HTL := Lib.hid htl
                have hdd : decide (idxT ts s ≠ 0) = false := decide_eq_false (by simp [hz])
                clear htl hz
                go_enter Try.func27, Try.ntmps27
                go_wp2_with (first | (refine look_num rfl rfl rfl rfl (by omega) hM ?_; rw [hdd]) | (go_at_call 57; refine Calls.mono HTL.out ?_; rintro e w1 ⟨rfl, lv1, hT1, hC1, hF1⟩) | (go_at_call 59; refine Calls.mono HTK.out ?_; rintro e w' ⟨rfl, rfl⟩; clear HTK) | (go_at_call 59; refine Calls.mono HTK2.out ?_; rintro e w' ⟨rfl, rfl⟩))
                go_ret3
                exact ⟨rfl, ⟨lv1, hT1, hF1⟩, hC1⟩
              · rw [if_neg hz]
                have hdd : decide (idxT ts s ≠ 0) = true := decide_eq_true hz
                clear hz
                go_enter Try.func27, Try.ntmps27
                go_wp2_with (first | (refine look_num rfl rfl rfl rfl (by omega) hM ?_; rw [hdd]) | (go_at_call 59; refine Calls.mono HTK.out ?_; rintro e w' ⟨rfl, rfl⟩; clear HTK) | (go_at_call 59; refine Calls.mono HTK2.out ?_; rintro e w' ⟨rfl, rfl⟩))
                go_ret3
                exact ⟨rfl, TakeQ.same HT.out⟩
        · rw [if_pos d1]
          have hd1 : decide (er2 = 0) = false := decide_eq_false d1
          clear hnl hlv hrL hr hq2
          go_enter Try.func27, Try.ntmps27
          go_wp2_with (first | (go_at_call 59; refine Calls.mono HTK.out ?_; rintro e w' ⟨rfl, rfl⟩; clear HTK) | (go_at_call 59; refine Calls.mono HTK2.out ?_; rintro e w' ⟨rfl, rfl⟩))
          go_ret3
          exact ⟨rfl, TakeQ.same HT.out⟩
  · rw [if_pos c1]
    have hc1 : decide (er = 0) = false := decide_eq_false c1
    clear hnl hlv hrL hr hq
    go_enter Try.func27, Try.ntmps27
    go_wp2_with (go_at_call 59; refine Calls.mono HTK.out ?_; rintro e w' ⟨rfl, rfl⟩)
    go_ret3
    exact ⟨rfl, TakeQ.same HT.out⟩
end Go.Proofs.Ytbkcpgaicoagfaa
/- Intern: the walks of the answer's at and Put, and of few. -/
set_option linter.unusedVariables false
set_option linter.unusedSimpArgs false
namespace Go.Proofs.Ytbkcpgaicoagfaa
open Go.RowKit

theorem tx_eq {a b : ByteArray} (h : a = b) : (a.toList == b.toList) = true := by simp [h]
theorem tx_ne {a b : ByteArray} (h : ¬ a = b) : (a.toList == b.toList) = false := by
  rw [beq_eq_false_iff_ne]
  intro e
  apply h
  rw [ByteArray.toList_eq, ByteArray.toList_eq] at e
  exact ByteArray.ext (Array.toList_inj.1 e)
theorem idxT_at {ts : List ByteArray} {s : ByteArray} : ∀ {j : Nat}, ts[j]? = some s → (∀ k, k < j → ts[k]? ≠ some s) → idxT ts s = j + 1 := by
  induction ts with
  | nil => intro j h; simp at h
  | cons t r ih =>
    intro j h hk
    rw [idxT]
    cases j with
    | zero => simp at h; rw [if_pos h]
    | succ j =>
      have h0 := hk 0 (by omega)
      simp at h0
      rw [List.getElem?_cons_succ] at h
      have := ih h (fun k hlt => by have := hk (k + 1) (by omega); simpa using this)
      rw [if_neg h0, if_neg (by omega), this]
theorem idxT_none {ts : List ByteArray} {s : ByteArray} (h : ∀ k, k < ts.length → ts[k]? ≠ some s) : idxT ts s = 0 := by
  cases hz : idxT ts s with
  | zero => rfl
  | succ k =>
    have h1 := idxT_get hz
    exact absurd h1 (h k (List.getElem?_eq_some_iff.1 h1).1)

section
variable {ops : Array Oper} {rest : List Oper} {o : Oper} {a : Act} {Q : Exit → Act → World → Prop} {W : World}
/-- []byte(s). -/
theorem conv_str (hgd : o.guard = none) {x : Operand} (ho : o.op = .convert 9 23 x) {s : ByteArray} (hx : a.eval x = .string s)
    (h : ∀ B c u, Rd u B s.size (bsOf s) → Grew W u → wpList Try.prog ops Q rest (a.put o.dst (.slice B s.size c)) u) : wpList Try.prog ops Q (o :: rest) a W := by
  have hrun := Lib.run_convert_string_bytes (P := Try.prog) W 9 23 5 s Try.underlying9 Try.underlying23 Try.underlying5
  refine wpList_plain hgd fun K hK => ?_
  unfold Oper.wp execOp
  simp only [ho, Sem.run_bind, Sem.run_pure, Result.andThen_ok, hx, hrun]
  refine hK _ _ (h _ _ _ ⟨bsOf_len s, fun hn => ⟨_, 0, rfl, fun j hj => ?_⟩⟩ ⟨rfl, rfl, rfl, by rw [Lib.bytesWorld_size]; omega, fun k hk => Lib.bytesWorld_at_old _ _ _ _ hk⟩)
  rw [Nat.zero_add, Lib.bytesWorld_cell _ _ _ _ hj]
  have hjl : j < s.data.toList.length := by rw [Array.length_toList]; exact hj
  simp [bsOf, List.getD_eq_getElem?_getD, List.getElem?_eq_getElem hjl]
end
/-- The answer's table at block q. -/
structure RefI (w : World) (q : Nat) (lv : Value) (ts : List ByteArray) : Prop where
  cells : w.heap[q]? = some (.cells #[lv] 50)
  list : OwnT w 0 lv ts
  few : ts.length ≤ 1000000
  size : ∀ t ∈ ts, t.size ≤ 1000000
def ftr (q : Nat) (lv : Value) (k : Nat) : Prop := k = q ∨ lv.ownBlock = some k
theorem RefI.apart {w : World} {q : Nat} {lv : Value} {ts : List ByteArray} (h : RefI w q lv ts) : lv.ownBlock ≠ some q := fun e => by
  obtain ⟨cur, hc⟩ := h.list.block e
  rw [h.cells] at hc
  simp only [Option.some.injEq, Obj.cells.injEq] at hc
  exact absurd hc.2.1 (by decide)
theorem RefI.lt {w : World} {q : Nat} {lv : Value} {ts : List ByteArray} (h : RefI w q lv ts) {k : Nat} (hk : ftr q lv k) : k < w.heap.size := by
  rcases hk with rfl | hk
  · exact (Array.getElem?_eq_some_iff.1 h.cells).1
  · exact h.list.lt hk
theorem OwnV.chg {e : TypeId} {sz : Nat} {w w' : World} {base : Nat} {v : Value} {n : Nat} {vs : List Value} {F : Nat → Prop} (h : OwnV e sz w base v n vs) (hg : Chg F w w') (hF : ∀ k, v.ownBlock = some k → ¬ F k) : OwnV e sz w' base v n vs := by
  have hc : ∀ b, v.ownBlock = some b → w'.heap[b]? = w.heap[b]? := fun b hb => hg.block b (h.lt hb) (hF b hb)
  refine ⟨⟨h.own.1, ?_⟩⟩
  rcases h.own.2 with h2 | ⟨g, cap, cur, hv, hg2, hh, r⟩
  · exact .inl h2
  · exact .inr ⟨g, cap, cur, hv, hg2, by rw [hc g (by rw [hv]; rfl)]; exact hh, r⟩
theorem RefI.chg {w w' : World} {q : Nat} {lv : Value} {ts : List ByteArray} {F : Nat → Prop} (h : RefI w q lv ts) (hg : Chg F w w') (hF : ∀ k, ftr q lv k → ¬ F k) : RefI w' q lv ts :=
  ⟨hg.by_ h.cells (hF q (.inl rfl)), h.list.chg hg (fun k hk => hF k (.inr hk)), h.few, h.size⟩
theorem RefI.keep {w w' : World} {q : Nat} {lv : Value} {ts : List ByteArray} (h : RefI w q lv ts) (hg : Grew w w') : RefI w' q lv ts := h.chg (F := fun _ => False) (Chg.of hg) (fun _ _ h => h)
theorem ownV_lit0 (e : TypeId) (sz : Nat) (W : World) : OwnV e sz (W.alloc (.cells #[] e)) W.heap.size (.slice (some ⟨W.heap.size, 0, none⟩) 0 0) 0 [] :=
  ⟨⟨by simp, .inr ⟨W.heap.size, 0, #[], rfl, Nat.le_refl _, heap_alloc_new W _, Nat.le_refl _, Nat.zero_le _, by simp, by simp⟩⟩⟩

set_option maxRecDepth 100000 in
set_option maxHeartbeats 1600000 in
theorem rat_any (q : Nat) (lv : Value) (ts : List ByteArray) (s : ByteArray) (z : Nat) (hz : idxT ts s = z) (w : World) (hR : RefI w q lv ts) :
    Calls Try.prog 58 #[.pointer (some ⟨q, 0, none⟩), .string s] w fun e w' => e = .returned (.int .i64 (z : Int)) ∧ w = w' := by
  obtain ⟨A, c, rfl, hnc, hc, hrl⟩ := hR.list.rd
  have hc0 : w.cell? ⟨q, 0, none⟩ = some (.slice A ts.length c) := cell_of_heap (i := 0) hR.cells rfl
  have hfew := hR.few
  have HZ := Lib.hid hz
  have HRL := Lib.hid hrl
  clear hR hz hrl
  go_enter Try.func58, Try.ntmps58
  go_wp2
  go_loop [5] (fun i => ∃ j : Nat, i = .int .i64 (j : Int) ∧ j ≤ ts.length ∧ ∀ k, k < j → ts[k]? ≠ some s) (fun i => ts.length - (intOf i).toNat)
  case atStart => exact ⟨0, rfl, by omega, fun k hk => by omega⟩
  case round =>
    obtain ⟨j, rfl, hj, hk⟩ := hrel
    have HK := Lib.hid hk
    clear hk
    by_cases hlt : j < ts.length
    · obtain ⟨g, o, hA, hcl⟩ := HRL.out.cells (by omega)
      obtain ⟨t, ht⟩ : ∃ t, ts[j]? = some t := ⟨_, List.getElem?_eq_getElem hlt⟩
      have hce := hcl j (.string t) (by rw [List.getElem?_map, ht]; rfl)
      have HT := Lib.hid ht
      subst hA
      clear hcl ht
      by_cases hts : t = s
      · have hd := tx_eq hts
        have hfin := idxT_at (by rw [HT.out, hts]) HK.out
        rw [HZ.out] at hfin
        have HF := Lib.hid hfin
        clear hts hfin
        go_wp2
        go_ret
        exact ⟨ret1 (by rw [HF.out]; rfl), rfl⟩
      · have hd := tx_ne hts
        have HTS := Lib.hid hts
        clear hts
        go_wp2
        go_round
        case rel => exact ⟨j + 1, by go_num, by omega, fun k hk e => by
          by_cases h : k = j
          · subst h; rw [HT.out] at e; exact HTS.out (Option.some.inj e)
          · exact HK.out k (by omega) e⟩
        case measure => simp [intOf]; omega
    · have hje : j = ts.length := by omega
      have hfin := idxT_none (ts := ts) (s := s) (fun k hk => HK.out k (by omega))
      rw [HZ.out] at hfin
      subst hfin
      clear hje
      go_wp2
      go_ret
      exact ⟨rfl, rfl⟩
end Go.Proofs.Ytbkcpgaicoagfaa
/- Intern: the walk of the answer's Put. -/
set_option linter.unusedVariables false
set_option linter.unusedSimpArgs false
namespace Go.Proofs.Ytbkcpgaicoagfaa
open Go.RowKit

/-- What the answer's Put leaves. -/
structure RPutQ (w w' : World) (q : Nat) (lv : Value) (out : List Int) (ts' : List ByteArray) (B : Option Addr) (m d : Nat) : Prop where
  rd : Rd w' B m out
  le : m ≤ d
  cap : d ≤ 9223372036854775807
  fresh : FreshA w.heap.size B
  u8 : U8 w' B
  tab : ∃ lv', RefI w' q lv' ts' ∧ (∀ k, ftr q lv' k → ftr q lv k ∨ w.heap.size ≤ k) ∧ ∀ ad, B = some ad → ¬ ftr q lv' ad.block
  chg : Chg (ftr q lv) w w'
theorem Chg.or {F G : Nat → Prop} {a b : World} (h : Chg F a b) : Chg (fun x => F x ∨ G x) a b := h.mono (fun _ => .inl)
theorem grew_by {w w1 : World} {n : Nat} {row : Option Nat} (h : w.grownBy w1 row) (hr : ∀ b, row = some b → n ≤ b) (hn : n ≤ w.heap.size) : Below n w w1 := (Below.refl _ _).grown h hn (fun k e => hr k e)

set_option maxRecDepth 100000 in
set_option maxHeartbeats 1600000 in
theorem rput_any (q : Nat) (lv : Value) (ts : List ByteArray) (s : ByteArray) (A : Option Addr) (n c : Nat) (bs : List Int) (w : World) (hR : RefI w q lv ts) (hr : Rd w A n bs) (hs : s.size ≤ 1000000) (hn : n ≤ 100000000) (hf : ts.length < 1000000) :
    Calls Try.prog 24 #[.pointer (some ⟨q, 0, none⟩), .slice A n c, .string s] w fun e w' => ∃ B m d, e = .returned (.slice B m d) ∧ RPutQ w w' q lv (bs ++ (putT ts s).1) (putT ts s).2 B m d := by
  have hle := idxT_le ts s
  have hap := hR.apart
  have hnl := hr.len
  have HR := Lib.hid hR
  have HNL := Lib.hid hnl
  unfold putT
  by_cases hz : idxT ts s = 0
  · rw [if_pos hz]
    have hat0 := fun (u : World) (h : RefI u q lv ts) => rat_any q lv ts s 0 hz u h
    have hb1 := leb_len (v := (s.size : Int)) (by omega)
    have hby := fun (u : World) => bytes_any (s.size : Int) u (by omega) (by omega)
    have hl0 : leb (0 : Int) = [0] := by decide +kernel
    rw [hl0]
    generalize hl1 : leb (s.size : Int) = l1 at *
    obtain ⟨AL, cL, hlv, hcL, hmL, hrL⟩ := hR.list.rd
    have hql : q < w.heap.size := HR.out.lt (.inl rfl)
    have hcv : ∀ u : World, RefI u q lv ts → u.cell? ⟨q, 0, none⟩ = some (.slice AL ts.length cL) := fun u h => by rw [← hlv]; exact cell_of_heap (i := 0) h.cells rfl
    have hbsl := bsOf_len s
    have HAT := Lib.hid hat0
    have HBY := Lib.hid hby
    have HB1 := Lib.hid hb1
    have HZ := Lib.hid hz
    have HCV := Lib.hid hcv
    have HBS := Lib.hid hbsl
    have HLV := Lib.hid hlv
    have HRL := Lib.hid hrL
    obtain ⟨n6, hn6⟩ : ∃ n6, (bs ++ [0]).length = n6 := ⟨_, rfl⟩
    obtain ⟨n8, hn8⟩ : ∃ n8, (bs ++ [0] ++ l1).length = n8 := ⟨_, rfl⟩
    obtain ⟨n9, hn9⟩ : ∃ n9, (bs ++ [0] ++ l1 ++ bsOf s).length = n9 := ⟨_, rfl⟩
    obtain ⟨n7, hn7⟩ : ∃ n7, l1.length = n7 := ⟨_, rfl⟩
    have hnb : n6 ≤ 100000001 ∧ n7 ≤ 10 ∧ n8 ≤ 100000011 := by
      simp only [List.length_append, List.length_singleton] at hn6 hn8
      omega
    have HN6 := Lib.hid hn6
    have HN7 := Lib.hid hn7
    have HN8 := Lib.hid hn8
    have HN9 := Lib.hid hn9
    clear hn6 hn7 hn8 hn9
    clear hat0 hby hb1 hz hle hR hnl hl0 hcv hbsl hlv hrL
    go_enter Try.func24, Try.ntmps24
    go_wp2_with (first | ((with_reducible refine gate_b .append #[.tmp 9, .tmp 10] _ rfl ?_); refine apps2 (.inl rfl) rfl rfl rfl (own_lit0 w) (hr.al _) (by simp) (by simp; omega) ?_; intro v1 w1 ho1 hg1 hat1; rw [List.nil_append] at ho1; obtain ⟨A1, c1, rfl, hc1, hm1, hr1⟩ := ho1.rd' HNL.out; have hG1 : Grew w w1 := ((Grew.rf w).al (.cells #[] 5)).grown hg1 (by simp) (fun k e => by cases e; exact Nat.le_refl _); have hR1 := HR.out.keep hG1) | (go_at_call 58; refine Calls.mono (HAT.out _ hR1) ?_; rintro e w' ⟨rfl, rfl⟩; have hcv1 := HCV.out _ (hR1.keep ((Grew.rf w1).al (.cells #[] 9))); clear HAT) | ((with_reducible refine gate_b .append #[.tmp 23, .tmp 27] _ rfl ?_); refine appV Try.underlying45 infostr rfl (by decide) (by decide) (.inl rfl) rfl rfl rfl (ownV_lit0 9 1 w1) (HRL.out.keep (hG1.al (.cells #[] 9))) (strs_one ts) (by simp) (by omega) ?_; intro v2 w2 ho2 hg2 hat2; simp only [Nat.zero_add, List.nil_append] at ho2; obtain ⟨A2, c2, rfl, hc2, hm2, hr2⟩ := ho2.rd; have hG2 : Grew w1 w2 := ((Grew.rf w1).al (.cells #[] 9)).grown hg2 (by simp) (fun k e => by cases e; exact Nat.le_refl _)) | ((with_reducible refine gate_b .append #[.tmp 28, .tmp 30] _ rfl ?_); refine appV Try.underlying45 infostr rfl (by decide) (by decide) (.inl rfl) rfl rfl rfl (ho2.keep ((Grew.rf w2).al (.cells #[.string s] 9))) (rdV_lit1 w2 (.string s) 9) (by simp [Value.oneCell']) (by simp; have := hG2.size; omega) (by omega) ?_; intro v3 w3 ho3 hg3 hat3; obtain ⟨A3, c3, rfl, hc3, hm3, hr3⟩ := ho3.rd; have hG3 : Grew w1 w3 := (hG2.al (.cells #[.string s] 9)).grown hg3 (by simp; have := hG2.size; omega) (fun k e => ho2.base_le k e); have hR3 := HR.out.keep (hG1.tr hG3); have hcv3 := HCV.out _ hR3; have hf3 := frozen_of_heap (i := 0) hR3.cells; have ho5 : Own (w3.setCell ⟨q, 0, none⟩ (.slice A3 (ts.length + 1) c3)) w.heap.size (.slice A1 n c1) bs := (ho1.keep hG3).kept (setCell_by _ _ _) (fun b hb he => by cases hb; have := ho1.base_le _ he; simp only at this; omega); have hs5 : w.heap.size ≤ (w3.setCell ⟨q, 0, none⟩ (.slice A3 (ts.length + 1) c3)).heap.size := by rw [setCell_size]; exact (hG1.tr hG3).size) | ((with_reducible refine gate_b .append #[.tmp 34, .tmp 35] _ rfl ?_); refine apps2 (.inl rfl) rfl rfl rfl (ho5.al _) (rd_lit' [0] (setCell_size _ _ _) rfl rfl (by decide)) (by rw [World.size_alloc]; omega) (by rw [HNL.out]; omega) ?_; intro v6 w6 ho6 hg6 hat6; obtain ⟨A6, c6, rfl, hc6, hm6, hr6⟩ := ho6.rd' HN6.out) | (go_at_call 48; refine Calls.mono (HBY.out _) ?_; rintro e w7 ⟨v7, rfl, ho7, hg7⟩; obtain ⟨A7, c7, rfl, hc7, hm7, hr7⟩ := ho7.rd' HN7.out) | ((with_reducible refine gate_b .append #[.tmp 36, .tmp 40] _ rfl ?_); refine apps2 (.inl rfl) rfl rfl rfl (ho6.keep hg7) hr7 (by have := hg6.size; have := hg7.size; rw [World.size_alloc] at *; omega) (by rw [HN6.out]; omega) ?_; intro v8 w8 ho8 hg8 hat8; obtain ⟨A8, c8, rfl, hc8, hm8, hr8⟩ := ho8.rd' HN8.out) | (refine conv_str rfl rfl rfl ?_; intro B9 cb u9 hr9 hg9) | ((with_reducible refine gate_b .append #[.tmp 42, .tmp 44] _ rfl ?_); refine apps2 (.inl rfl) rfl rfl rfl (ho8.keep hg9) hr9 (by have := hg6.size; have := hg7.size; have := hg8.size; have := hg9.size; rw [World.size_alloc] at *; omega) (by rw [HN8.out]; omega) ?_; intro v10 w10 ho10 hg10 hat10; obtain ⟨A10, c10, rfl, hc10, hm10, hr10⟩ := ho10.rd' HN9.out))
    go_ret
    have hg6' : ((w3.setCell ⟨q, 0, none⟩ (.slice A3 (ts.length + 1) c3)).alloc (.cells #[.int .u8 0] 5)).grownBy w6 (Value.slice A1 n c1).ownBlock := hg6
    have hg8' : w7.grownBy w8 (Value.slice A6 n6 c6).ownBlock := hg8
    have hg10' : u9.grownBy w10 (Value.slice A8 n8 c8).ownBlock := hg10
    have ha6 : ∀ b, (Value.slice A6 n6 c6).ownBlock = some b → (Value.slice A1 n c1).ownBlock = some b ∨ w3.heap.size ≤ b := fun b hb => by
      have h := (hat6 b hb).1
      rw [World.size_alloc, setCell_size] at h
      exact h.imp id (fun h => by omega)
    have ha8 : ∀ b, (Value.slice A8 n8 c8).ownBlock = some b → (Value.slice A6 n6 c6).ownBlock = some b ∨ w7.heap.size ≤ b := fun b hb => (hat8 b hb).1
    have ha10 : ∀ b, (Value.slice A10 n9 c10).ownBlock = some b → (Value.slice A8 n8 c8).ownBlock = some b ∨ u9.heap.size ≤ b := fun b hb => (hat10 b hb).1
    have hz6 := hg6'.size
    rw [World.size_alloc, setCell_size] at hz6
    have hz7 := hg7.size
    have hz8 := hg8'.size
    have hz9 := hg9.size
    have hz1 := hG1.size
    have hz3 := hG3.size
    have b1 : ∀ b, (Value.slice A1 n c1).ownBlock = some b → (w.heap.size ≤ b ∧ b < w1.heap.size) ∨ w3.heap.size ≤ b := fun b hb => .inl ⟨ho1.base_le b hb, ho1.lt b hb⟩
    have b6 : ∀ b, (Value.slice A6 n6 c6).ownBlock = some b → (w.heap.size ≤ b ∧ b < w1.heap.size) ∨ w3.heap.size ≤ b := fun b hb => (ha6 b hb).elim (b1 b) .inr
    have b8 : ∀ b, (Value.slice A8 n8 c8).ownBlock = some b → (w.heap.size ≤ b ∧ b < w1.heap.size) ∨ w3.heap.size ≤ b := fun b hb => (ha8 b hb).elim (b6 b) (fun h => .inr (by omega))
    have b10 : ∀ b, (Value.slice A10 n9 c10).ownBlock = some b → (w.heap.size ≤ b ∧ b < w1.heap.size) ∨ w3.heap.size ≤ b := fun b hb => (ha10 b hb).elim (b8 b) (fun h => .inr (by omega))
    have hC4 : Chg (fun b => (w.heap.size ≤ b ∧ b < w1.heap.size) ∨ w3.heap.size ≤ b) (w3.setCell ⟨q, 0, none⟩ (.slice A3 (ts.length + 1) c3)) w10 := by
      exact Chg.tr (Chg.of ((Grew.rf _).al (.cells #[.int .u8 0] 5))) (Chg.or (Chg.tr (Chg.ofBy hg6' b1) (Chg.or (Chg.tr (Chg.of hg7) (Chg.or (Chg.tr (Chg.ofBy hg8' b6) (Chg.or (Chg.tr (Chg.of hg9) (Chg.or (Chg.ofBy hg10' b8))))))))))
    have hl3 : ∀ b, (Value.slice A3 (ts.length + 1) c3).ownBlock = some b → w1.heap.size ≤ b ∧ b < w3.heap.size := fun b hb => ⟨ho3.base_le b hb, ho3.lt hb⟩
    have hc4 := setCell_heap_same hR3.cells (i := 0) (.slice A3 (ts.length + 1) c3)
    have hR4 : RefI (w3.setCell ⟨q, 0, none⟩ (.slice A3 (ts.length + 1) c3)) q (.slice A3 (ts.length + 1) c3) (ts ++ [s]) := by
      refine ⟨by simpa using hc4, ?_, by simp; omega, ?_⟩
      · show OwnV _ 1 _ 0 _ (ts ++ [s]).length ((ts ++ [s]).map Value.string)
        rw [List.map_append, List.length_append]
        exact (ho3.kept (setCell_by _ _ _) (fun b hb he => by cases hb; have h : w1.heap.size ≤ q := (hl3 _ he).1; omega)).lower (Nat.zero_le _)
      · intro t ht
        rcases List.mem_append.1 ht with h | h
        · exact HR.out.size t h
        · rw [List.mem_singleton] at h; subst h; exact hs
    have hnf : ∀ k, ftr q (.slice A3 (ts.length + 1) c3) k → ¬ ((w.heap.size ≤ k ∧ k < w1.heap.size) ∨ w3.heap.size ≤ k) := by
      rintro k (rfl | hk) h
      · omega
      · have := hl3 _ hk; omega
    refine ⟨_, _, _, rfl, ⟨by simpa using hr10, hc10, hm10, ho10.fresh, ho10.u8, ⟨_, hR4.chg hC4 hnf, ?_, ?_⟩, ?_⟩⟩
    · rintro k (rfl | hk)
      · exact .inl (.inl rfl)
      · exact .inr (by have := hl3 _ hk; omega)
    · intro ad e hk
      exact hnf _ hk (b10 _ (by rw [e]; rfl))
    · refine Chg.tr (Chg.of (hG1.tr hG3)) (Chg.tr (Chg.ofBy (setCell_by _ _ _) (fun b hb => by cases hb; exact .inl (.inl rfl))) (hC4.mono (fun k hk => .inl (.inr ?_))))
      rcases hk with h | h <;> omega
  · rw [if_neg hz]
    have hat0 := fun (u : World) (h : RefI u q lv ts) => rat_any q lv ts s _ rfl u h
    have hby := fun (u : World) => bytes_any (idxT ts s : Int) u (by omega) (by omega)
    have hb1 := leb_len (v := (idxT ts s : Int)) (by omega)
    generalize leb (idxT ts s : Int) = l1 at *
    obtain ⟨n7, hn7⟩ : ∃ n7, l1.length = n7 := ⟨_, rfl⟩
    obtain ⟨n8, hn8⟩ : ∃ n8, (bs ++ l1).length = n8 := ⟨_, rfl⟩
    obtain ⟨z, hzz⟩ : ∃ z, idxT ts s = z := ⟨_, rfl⟩
    rw [hzz] at hat0 hby hz hle
    have hz0 : 0 < z := by omega
    have hzl : z ≤ 1000000 := by omega
    have hn10 : n7 ≤ 10 := by omega
    have HAT := Lib.hid hat0
    have HBY := Lib.hid hby
    have HN7 := Lib.hid hn7
    have HN8 := Lib.hid hn8
    clear hat0 hby hb1 hz hzz hle hR hnl hn7 hn8
    go_enter Try.func24, Try.ntmps24
    go_wp2_with (first | ((with_reducible refine gate_b .append #[.tmp 9, .tmp 10] _ rfl ?_); refine apps2 (.inl rfl) rfl rfl rfl (own_lit0 w) (hr.al _) (by simp) (by simp; omega) ?_; intro v1 w1 ho1 hg1 hat1; rw [List.nil_append] at ho1; obtain ⟨A1, c1, rfl, hc1, hm1, hr1⟩ := ho1.rd' HNL.out; have hG1 : Grew w w1 := ((Grew.rf w).al (.cells #[] 5)).grown hg1 (by simp) (fun k e => by cases e; exact Nat.le_refl _); have hR1 := HR.out.keep hG1) | (go_at_call 58; refine Calls.mono (HAT.out _ hR1) ?_; rintro e w' ⟨rfl, rfl⟩; clear HAT) | (go_at_call 48; refine Calls.mono (HBY.out _) ?_; rintro e w7 ⟨v7, rfl, ho7, hg7⟩; obtain ⟨A7, c7, rfl, hc7, hm7, hr7⟩ := ho7.rd' HN7.out) | ((with_reducible refine gate_b .append #[.tmp 17, .tmp 20] _ rfl ?_); refine apps2 (.inl rfl) rfl rfl rfl (ho1.keep hg7) hr7 (by have := hG1.size; have := hg7.size; omega) (by rw [HNL.out]; omega) ?_; intro v8 w8 ho8 hg8 hat8; obtain ⟨A8, c8, rfl, hc8, hm8, hr8⟩ := ho8.rd' HN8.out))
    go_ret
    have hg8' : w7.grownBy w8 (Value.slice A1 n c1).ownBlock := hg8
    have hG8 : Grew w w8 := (hG1.tr hg7).grown hg8' (by have := hG1.size; have := hg7.size; omega) (fun k e => ho1.base_le k e)
    refine ⟨_, _, _, rfl, ⟨hr8, hc8, hm8, ho8.fresh, ho8.u8, ⟨lv, HR.out.keep hG8, fun k hk => .inl hk, fun ad e hk => by have := ho8.fresh ad e; have := HR.out.lt hk; omega⟩, Chg.of hG8⟩⟩
end Go.Proofs.Ytbkcpgaicoagfaa
set_option linter.unusedVariables false
set_option linter.unusedSimpArgs false
namespace Go.Proofs.Ytbkcpgaicoagfaa
open Go.RowKit

set_option maxHeartbeats 1600000 in
theorem rtake_any (A : Option Addr) (n c : Nat) (bs : List Int) (at_ : Int) (w : World) (hr : Rd w A n bs) (hb : Byt bs) (hnc : n ≤ c) (hn : c ≤ 9223372036854775807) (hn2 : n ≤ 9223372036854775797) (h0 : -9223372036854775808 ≤ at_) (h1 : at_ ≤ 9223372036854775807) :
    Calls Try.prog 56 #[.slice A n c, .int .i64 at_] w fun e w' => e = .returned (.tuple #[.int .u64 (lebTake bs at_).1, .int .i64 (lebTake bs at_).2.1, .int .i64 (lebTake bs at_).2.2]) ∧ Grew w w' := by
  by_cases c0 : at_ < 0
  · have e : lebTake bs at_ = (0, 0, 1) := by unfold lebTake; rw [if_pos c0]
    rw [e]
    go_enter Try.func56, Try.ntmps56
    go_wp2
    go_ret3
    exact ⟨rfl, Grew.rf _⟩
  · by_cases c1 : (n : Int) < at_
    · have e : lebTake bs at_ = (0, 0, 1) := by unfold lebTake; rw [if_neg c0, hr.len, if_pos c1]
      rw [e]
      go_enter Try.func56, Try.ntmps56
      go_wp2
      go_ret3
      exact ⟨rfl, Grew.rf _⟩
    · obtain ⟨i, rfl⟩ := Int.eq_ofNat_of_zero_le (by omega : 0 ≤ at_)
      have hin : i ≤ n := by omega
      have hbd : Byt (bs.drop i) := fun x hx => hb x (List.mem_of_mem_drop hx)
      have e : lebTake bs (i : Int) = (let r := tkF 0 0 (bs.drop i); if r.2.2 = 0 then (r.1, (i : Int) + r.2.1, 0) else (0, 0, r.2.2)) := by
        unfold lebTake
        rw [if_neg c0, hr.len, if_neg c1, Int.toNat_natCast]
      rw [e]
      clear e
      have hdl : (bs.drop i).length = n - i := by rw [List.length_drop, hr.len]
      have hcell : ∀ j, j < n - i → ∃ b o, A = some ⟨b, o, none⟩ ∧ w.cell? ⟨b, o + (i + j), none⟩ = some (.int .u8 ((bs.drop i).getD j 0)) := fun j hj => by
        obtain ⟨b, o, hA, hc⟩ := hr.at_ (j := i + j) (by omega)
        exact ⟨b, o, hA, by rw [hc]; simp [List.getD_eq_getElem?_getD]⟩
      have HCE := Lib.hid hcell
      clear hcell
      have hcuts : ∀ m, i ≤ m → m ≤ n → ∃ A' : Option Addr, (∀ W : World, (Instr.slice 23 (.slice A n c) (some (.int .i64 (i : Int))) (some (.int .i64 (m : Int))) none).run Try.prog W = .ok (.slice A' (m - i) (c - i)) W) ∧ Rd w A' (m - i) ((bs.drop i).take (m - i)) := fun m h1 h2 => by
        obtain ⟨A', g1, g2⟩ := cut_lh (kl := .i64) (kh := .i64) A n c i m h1 h2 hnc
        refine ⟨A', g1, ?_⟩
        have := g2 hr
        rwa [List.drop_take] at this
      have HCU := Lib.hid hcuts
      clear hcuts
      generalize bs.drop i = ds at *
      obtain ⟨R, hR⟩ : ∃ R, (let r := tkF 0 0 ds; if r.2.2 = 0 then (r.1, (i : Int) + r.2.1, 0) else (0, 0, r.2.2)) = R := ⟨_, rfl⟩
      rw [hR]
      have HR := Lib.hid hR
      clear hR
      have HDL := Lib.hid hdl
      clear hdl
      go_enter Try.func56, Try.ntmps56
      go_wp2
      go_loop [7] (fun t7 => ∃ (j : Nat), t7 = .int .i64 (i + j) ∧ ScAt ds j ∧ j ≤ n - i ∧ j ≤ 10) (fun t7 => n - (intOf t7).toNat)
      case atStart => exact ⟨0, by simp, ScAt.start ds, by omega, by omega⟩
      case round =>
        obtain ⟨m, rfl, hS, hm, hm10⟩ := hrel
        by_cases hlt : m < n - i
        · obtain ⟨b, o, rfl, hce⟩ := HCE.out m hlt
          have hxb := tk_byte hbd (k := m) (by rw [HDL.out]; exact hlt)
          obtain ⟨x, hx⟩ : ∃ x, ds.getD m 0 = x := ⟨_, rfl⟩
          rw [hx] at hce hxb
          have hgo : m < 10 → 128 ≤ x → ScAt ds (m + 1) := fun h10 h => hS.step (by rw [HDL.out]; exact hlt) h10 (by rw [hx]; exact h)
          have HX := Lib.hid hx
          clear hx
          have HGO := Lib.hid hgo
          clear hgo
          by_cases c10 : m < 10
          · by_cases c128 : 128 ≤ x
            · have hS2 := HGO.out c10 c128
              go_wp2
              go_round
              case rel => exact ⟨m + 1, by go_num, hS2, by omega, by omega⟩
              case measure => simp [intOf]; omega
            · have hge : ∀ k, k < m → 128 ≤ ds.getD k 0 := hS.2.2.2
              have hR := HR.out
              have e3 : tkF 0 0 ds = (if leb (nF ds (m + 1)) = ds.take (m + 1) then (nF ds (m + 1), m + 1, 0) else (0, 0, 4)) := by
                rw [rTake_eq hbd (m := m) (by rw [HDL.out]; omega) hm10 hge (.inr (.inr (by rw [HX.out]; omega)))]
                unfold rTake
                rw [if_neg (by rw [HDL.out]; omega), if_neg (by omega)]
              rw [e3] at hR
              clear HR e3
              have HR := Lib.hid hR
              clear hR hge hS
              have hcell : ∀ j, j < n - i → w.cell? ⟨b, o + (i + j), none⟩ = some (.int .u8 (ds.getD j 0)) := fun j hj => by
                obtain ⟨b', o', e, hc⟩ := HCE.out j hj
                injection e with e
                injection e with e1 e2
                subst e1; subst e2
                exact hc
              have HC2 := Lib.hid hcell
              clear hcell HCE HGO
              go_wp2
              go_loop [8, 9, 10] (fun t8 t9 t10 => ∃ (k : Nat) (s q : Int), k ≤ m + 1 ∧ t8 = .int .u64 s ∧ Hid (s = nF ds k) ∧ t9 = .int .u64 q ∧ Hid (q = 128 ^ k % 18446744073709551616) ∧ 0 ≤ s ∧ s < 18446744073709551616 ∧ 0 ≤ q ∧ q < 18446744073709551616 ∧ t10 = .int .i64 (i + k)) (fun _ _ t10 => n + 1 - (intOf t10).toNat)
              case atStart => exact ⟨0, 0, 1, by omega, rfl, Lib.hid rfl, rfl, Lib.hid (by decide), by omega, by omega, by omega, by omega, by simp⟩
              case round =>
                obtain ⟨k, s, q, hk, rfl, hs, rfl, hq, hs0, hs1, hq0, hq1, rfl⟩ := hrel
                by_cases hkm : k ≤ m
                · have hc := HC2.out k (by omega)
                  have hxb := tk_byte hbd (k := k) (by rw [HDL.out]; omega)
                  obtain ⟨y, hy⟩ : ∃ y, ds.getD k 0 = y := ⟨_, rfl⟩
                  rw [hy] at hc hxb
                  have HY := Lib.hid hy
                  clear hy
                  go_wp2
                  go_round
                  case rel => exact ⟨k + 1, _, _, by omega, rfl, Lib.hid (by rw [nF, ← hs.out, HY.out, ← hq.out, IntKind.wrap_u64, IntKind.wrap_u64]), rfl, Lib.hid (by rw [hq.out, IntKind.wrap_u64, Int.pow_succ, Int.mul_emod, Int.emod_emod_of_dvd _ (Int.dvd_refl _), ← Int.mul_emod]), by rw [IntKind.wrap_u64]; omega, by rw [IntKind.wrap_u64]; omega, by rw [IntKind.wrap_u64]; omega, by rw [IntKind.wrap_u64]; omega, by go_num⟩
                  case measure => simp [intOf]; omega
                · have hk2 : k = m + 1 := by omega
                  subst hk2
                  have hR := HR.out
                  rw [← hs.out] at hR
                  clear HR hs hq HC2
                  obtain ⟨bb, hbb⟩ : ∃ bb, ((strOfNums (leb s)).toList != (strOfNums (ds.take (m + 1))).toList) = bb := ⟨_, rfl⟩
                  have hres : R = if bb then (0, 0, 4) else (s, (i : Int) + (m + 1 : Nat), 0) := by
                    by_cases hq : leb s = ds.take (m + 1)
                    · rw [str_eq' hq] at hbb
                      subst hbb
                      rw [← hR]
                      simp [hq]
                    · rw [str_ne' (leb_byte hs0) (fun x hx => hbd x (List.mem_of_mem_take hx)) hq] at hbb
                      subst hbb
                      rw [← hR]
                      simp [hq]
                  clear hR
                  have HRES := Lib.hid hres
                  clear hres
                  obtain ⟨A', hcut, hAr⟩ := HCU.out (i + m + 1) (by omega) (by omega)
                  rw [show i + m + 1 - i = m + 1 by omega] at hcut hAr
                  have hnum : (((i + m + 1 : Nat) : Int)) = (i : Int) + m + 1 := by omega
                  rw [hnum] at hcut
                  clear hnum
                  go_wp2
                  refine region_grew [[], [(0, 71)], [(1, 72)], [], [], [], [(5, 76)], [(3, 74), (4, 75), (6, 77)], [(7, 78)], [(2, 73), (8, 79)]] [(0, 71), (1, 72), (2, 73), (3, 74), (4, 75), (5, 76), (6, 77), (7, 78), (8, 79), (9, 80)] (fun
                    | 0 => .eqv (.int .u64 s) | 1 => .own 0 (leb s) | 2 => .eqv (.string (strOfNums (leb s))) | 3 => .eqv (.slice (some ⟨b, o, none⟩) n c) | 4 => .eqv (.int .i64 i) | 5 => .eqv (.int .i64 (i + m))
                    | 6 => .eqv (.int .i64 (i + m + 1)) | 7 => .eqv (.slice A' (m + 1) (c - i)) | 8 => .eqv (.string (strOfNums (ds.take (m + 1)))) | 9 => .eqv (.bool bb) | _ => .any) (by kernel_rfl) ?_ ?_
                  · refine ⟨fun u hu => ?_, fun u hu => ?_, fun u hu => ?_, fun u hu => ?_, fun u hu => ?_, fun u hu => ?_, fun u hu => ?_, fun u hu => ?_, fun u hu => ?_, fun u hu => ?_, trivial⟩
                    · refine StepGoal.nil ?_
                      go_wp2
                      exact ⟨rfl, rfl, Grew.rf _, rfl⟩
                    · rintro _ rfl
                      refine StepGoal.nil ?_
                      simp only [Act.put, List.setIfInBounds_toArray, List.set_cons_zero, List.set_cons_succ]
                      go_wp2_with (go_at_call 48; refine (bytes_any _ _ hs0 hs1).mono ?_; rintro e w1 ⟨v, rfl, ho, hg⟩)
                      exact ⟨rfl, rfl, hg, ho.lower (Nat.zero_le _)⟩
                    · rintro v hv
                      have hs := OwnK.str hv
                      refine StepGoal.nil ?_
                      simp only [Act.put, List.setIfInBounds_toArray, List.set_cons_zero, List.set_cons_succ]
                      go_wp2
                      exact ⟨rfl, rfl, Grew.rf _, rfl⟩
                    · refine StepGoal.nil ?_
                      go_wp2
                      exact ⟨rfl, rfl, Grew.rf _, rfl⟩
                    · refine StepGoal.nil ?_
                      go_wp2
                      exact ⟨rfl, rfl, Grew.rf _, rfl⟩
                    · refine StepGoal.nil ?_
                      go_wp2
                      exact ⟨rfl, rfl, Grew.rf _, rfl⟩
                    · rintro _ rfl
                      refine StepGoal.nil ?_
                      simp only [Act.put, List.setIfInBounds_toArray, List.set_cons_zero, List.set_cons_succ]
                      go_wp2
                      exact ⟨rfl, rfl, Grew.rf _, rfl⟩
                    · rintro _ rfl _ rfl _ rfl
                      refine StepGoal.nil ?_
                      simp only [Act.put, List.setIfInBounds_toArray, List.set_cons_zero, List.set_cons_succ]
                      go_wp2
                      exact ⟨rfl, rfl, Grew.rf _, rfl⟩
                    · rintro _ rfl
                      have hs := RdK.str (c := c - i) (hAr.keep hu)
                      refine StepGoal.nil ?_
                      simp only [Act.put, List.setIfInBounds_toArray, List.set_cons_zero, List.set_cons_succ]
                      go_wp2
                      exact ⟨rfl, rfl, Grew.rf _, rfl⟩
                    · rintro _ rfl _ rfl
                      refine StepGoal.nil ?_
                      simp only [Act.put, List.setIfInBounds_toArray, List.set_cons_zero, List.set_cons_succ]
                      go_wp2
                      exact ⟨rfl, rfl, Grew.rf _, congrArg Value.bool hbb⟩
                  · intro u hu
                    rintro _ rfl v1 hv1 _ rfl _ rfl _ rfl _ rfl _ rfl _ rfl _ rfl _ rfl
                    refine StepGoal.nil ?_
                    simp only [Act.put, List.setIfInBounds_toArray, List.set_cons_zero, List.set_cons_succ]
                    have hres := HRES.out
                    cases bb
                    · simp only [Bool.false_eq_true, if_false] at hres
                      subst hres
                      clear HRES
                      go_wp2
                      go_ret3
                      exact ⟨ret3 rfl (by first | omega | (simp; omega)) rfl, hu⟩
                    · simp only [if_true] at hres
                      subst hres
                      clear HRES
                      go_wp2
                      go_ret3
                      exact ⟨rfl, hu⟩
          · have hm9 : m = 10 := by omega
            subst hm9
            have hR := HR.out
            have e3 : rTake ds 10 = (0, 0, 4) := by unfold rTake; rw [if_neg (by omega), if_pos rfl]
            rw [rTake_eq hbd (m := 10) (by rw [HDL.out]; omega) (by omega) hS.2.2.2 (.inr (.inl rfl)), e3] at hR
            simp at hR
            subst hR
            clear HR HGO HCE HCU
            go_wp2
            go_ret3
            exact ⟨rfl, Grew.rf _⟩
        · have hmn : m = n - i := by omega
          have hR := HR.out
          have hge := hS.2.2.2
          by_cases c10 : m < 10
          · rw [rTake_eq hbd (m := m) (by rw [HDL.out]; omega) (by omega) hge (.inl (by rw [HDL.out]; omega))] at hR
            have e3 : rTake ds m = (0, 0, 7) := by unfold rTake; rw [if_pos ⟨by rw [HDL.out]; omega, c10⟩]
            rw [e3] at hR
            simp at hR
            subst hR
            clear HR HCE HCU hge hS
            have h1 : ((i : Int) + m == n) = true := by simp; omega
            go_wp2
            go_ret3
            exact ⟨rfl, Grew.rf _⟩
          · have hm9 : m = 10 := by omega
            rw [rTake_eq hbd (m := m) (by rw [HDL.out]; omega) (by omega) hge (.inl (by rw [HDL.out]; omega))] at hR
            have e3 : rTake ds m = (0, 0, 4) := by unfold rTake; rw [if_neg (by omega), if_pos hm9]
            rw [e3] at hR
            simp at hR
            subst hR
            clear HR HCE HCU hge hS
            have h1 : ((i : Int) + m - i == 10) = true := by simp; omega
            clear hm9
            go_wp2
            go_ret3
            exact ⟨rfl, Grew.rf _⟩
end Go.Proofs.Ytbkcpgaicoagfaa
