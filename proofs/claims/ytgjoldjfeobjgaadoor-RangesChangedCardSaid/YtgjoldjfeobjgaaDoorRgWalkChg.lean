/-
  RangesChanged: the walk.
-/
import Derived.Test.YtgjoldjfeobjgaaDoorRgWalkOf
import Derived.Test.YtgjoldjfeobjgaaDoorRgLong
import Derived.Laws.IdiomStrings
import Derived.Laws.BytesArg
namespace Go.Proofs.YtgjoldjfeobjgaaDoor
open Go.RowKit

def u8s (l : List Int) : List UInt8 := l.map fun x => UInt8.ofNat x.toNat
theorem conv_bytes {W : World} {Bk : Nat} {A : Option Addr} {l : List Int} (c : Nat) (hb : ∀ x ∈ l, 0 ≤ x ∧ x ≤ 255) (hr : Row W Bk A (bv l)) :
    (convert 22 9 (.slice A l.length c)).run Tryd.prog W = .ok (.string (bs (u8s l))) W := by
  cases A with
  | none =>
    have h0 : l = [] := by
      rcases hr with h | ⟨b, o, h, _⟩
      · have := congrArg List.length h; rw [bv_len] at this; exact List.eq_nil_of_length_eq_zero (by simpa using this)
      · cases h
    subst h0
    show (convert 22 9 (.slice none 0 c)).run Tryd.prog W = _
    rw [run_convert_bytes_string W 22 9 5 none 0 c Tryd.underlying22 Tryd.underlying5 Tryd.underlying9]
    simp [Conv.bytesToString, u8s, bs]
    rfl
  | some a =>
    have h := run_convert_bytes_back (P := Tryd.prog) W 22 9 5 a c (u8s l) Tryd.underlying22 Tryd.underlying5 Tryd.underlying9 (fun j hj => by
      have hj' : j < l.length := by simpa [u8s] using hj
      obtain ⟨b, o, h1, _, h3⟩ := hr.byte hj'
      have ha : a = ⟨b, o, none⟩ := Option.some.inj h1
      subst ha
      rw [Addr.add_lit, h3]
      have := hb _ (List.getElem_mem hj')
      simp only [u8s, List.getElem_map]
      rw [UInt8.toNat_ofNat', Nat.mod_eq_of_lt (by omega), Int.toNat_of_nonneg this.1])
    rw [show (u8s l).length = l.length by simp [u8s]] at h
    exact h
theorem row_byte1 (W : World) (x : Int) (T : TypeId) : Row (W.alloc (.cells #[.int .u8 x] T)) (W.heap.size + 1) (some ⟨W.heap.size, 0, none⟩) (bv [x]) := row_one' W (.int .u8 x) T
theorem bv_one (l : List Int) : ∀ u ∈ bv l, u.oneCell' = true := by
  intro u hu
  obtain ⟨x, _, rfl⟩ := List.mem_map.1 hu
  rfl
theorem bv_append (a b : List Int) : bv (a ++ b) = bv a ++ bv b := by simp [bv]
theorem bv_take (l : List Int) (k : Nat) : bv (l.take k) = (bv l).take k := by simp [bv]
namespace G
theorem chgR_small {a b : List Int} (ha : a.length ≤ 300) (hb : b.length ≤ 300) : chgR a b = (0, chg (df a b) (max a.length b.length)) := by
  unfold chgR
  rw [if_neg (by omega), if_pos (by have := chg_len (df a b) (max a.length b.length); omega)]
theorem chgR_mem {a b : List Int} (ha : a.length ≤ 300) (hb : b.length ≤ 300) {k : Nat} (hk : k < b.length) : mem (chgR a b).2 (k : Int) = df a b k := by
  rw [chgR_small ha hb, (chg_form (df a b) (max a.length b.length)).2.2.2]
  rw [decide_eq_true (by omega), decide_eq_true (by omega)]
  simp
end G
theorem changed_at {a b : List Int} (ha : a.length ≤ 200000) (hb : b.length ≤ 200000) {A B : Option Addr} {c e n m : Nat} {w : World} (hra : Row w w.heap.size A (bv a)) (hrb : Row w w.heap.size B (bv b)) (e1 : n = a.length) (e2 : m = b.length) :
    Calls Tryd.prog 12 #[.slice A n c, .slice B m e] w fun e w' => ∃ v, e = .returned (.tuple #[.agg #[v], .int .i64 ((G.chgR a b).1 : Int)]) ∧ w'.ownsRow w.heap.size 61 2 v (G.chgR a b).2.length (pv (G.chgR a b).2) ∧ Below w.heap.size w w' := by
  subst e1 e2; exact changed_any a b ha hb A B c e w hra hrb
theorem refchg_at {a b : List Int} (ha : a.length ≤ 200000) (hb : b.length ≤ 200000) {A B : Option Addr} {c e n m : Nat} {w : World} (hra : Row w w.heap.size A (bv a)) (hrb : Row w w.heap.size B (bv b)) (e1 : n = a.length) (e2 : m = b.length) :
    Calls Tryd.prog 13 #[.slice A n c, .slice B m e] w fun e w' => ∃ v, e = .returned (.tuple #[v, .int .i64 ((G.chgR a b).1 : Int)]) ∧ w'.ownsRow w.heap.size 66 2 v (G.chgR a b).2.length (pv (G.chgR a b).2) ∧ Below w.heap.size w w' := by
  subst e1 e2; exact refchg_any a b ha hb A B c e w hra hrb

set_option maxRecDepth 100000 in
set_option maxHeartbeats 4000000 in
theorem walkChanged (a0 b0 : List Int) (A B : Option Addr) (c d : Nat) (hca : a0.length ≤ c) (hcb : b0.length ≤ d) (hcm : c ≤ maxLen) (hdm : d ≤ maxLen) (hwb : ∀ x ∈ b0, 0 ≤ x ∧ x ≤ 255) (w : World) (hra0 : Row w w.heap.size A (bv a0)) (hrb0 : Row w w.heap.size B (bv b0)) (he : Env w) :
    Calls Tryd.prog 5 #[.slice A a0.length c, .slice B b0.length d] w fun e w' => e = .returned (.bool true) ∧ Below w.heap.size w w' := by
  obtain ⟨i0, hi, hz0, hz1, hz2⟩ := info_parts infoByte
  obtain ⟨a, ha⟩ : ∃ a, a0.take 300 = a := ⟨_, rfl⟩
  obtain ⟨b, hb⟩ : ∃ b, b0.take 300 = b := ⟨_, rfl⟩
  have hra : Row w w.heap.size A (bv a) := by rw [← ha, bv_take]; exact hra0.take _
  have hrb : Row w w.heap.size B (bv b) := by rw [← hb, bv_take]; exact hrb0.take _
  have hla : a.length ≤ 300 := by rw [← ha, List.length_take]; omega
  have hlb : b.length ≤ 300 := by rw [← hb, List.length_take]; omega
  have hma : min (a0.length : Int) 300 = (a.length : Int) := by rw [← ha, List.length_take]; omega
  have hmb : min (b0.length : Int) 300 = (b.length : Int) := by rw [← hb, List.length_take]; omega
  have hac : a.length ≤ c := by omega
  have hbd : b.length ≤ d := by omega
  have hwb : ∀ x ∈ b, 0 ≤ x ∧ x ≤ 255 := fun x hx => hwb x (by rw [← hb] at hx; exact List.mem_of_mem_take hx)
  have hset := G.chgR_set (a := a) (b := b) (by omega) (by omega)
  have hlen := G.chgR_len a b
  have HMEM : Hid (∀ k, k < b.length → G.mem (G.chgR a b).2 (k : Int) = G.df a b k) := fun k hk => G.chgR_mem hla hlb hk
  have HC : Hid (∀ W, Below w.heap.size w W → Calls Tryd.prog 12 #[.slice A a.length c, .slice B b.length d] W fun e w' => ∃ v, e = .returned (.tuple #[.agg #[v], .int .i64 ((G.chgR a b).1 : Int)]) ∧ w'.ownsRow W.heap.size 61 2 v (G.chgR a b).2.length (pv (G.chgR a b).2) ∧ Below W.heap.size W w') := fun W h =>
    changed_at (by omega) (by omega) ((hra.below h).more h.size) ((hrb.below h).more h.size) rfl rfl
  have HF : Hid (∀ W, Below w.heap.size w W → Calls Tryd.prog 13 #[.slice A a.length c, .slice B b.length d] W fun e w' => ∃ v, e = .returned (.tuple #[v, .int .i64 ((G.chgR a b).1 : Int)]) ∧ w'.ownsRow W.heap.size 66 2 v (G.chgR a b).2.length (pv (G.chgR a b).2) ∧ Below W.heap.size W w') := fun W h =>
    refchg_at (by omega) (by omega) ((hra.below h).more h.size) ((hrb.below h).more h.size) rfl rfl
  have hcode : (((G.chgR a b).1 : Int) != ((G.chgR a b).1 : Int)) = false := by simp
  obtain ⟨cd, hcd⟩ : ∃ cd, (G.chgR a b).1 = cd := ⟨_, rfl⟩
  obtain ⟨M, hM⟩ : ∃ M, (G.chgR a b).2 = M := ⟨_, rfl⟩
  rw [hcd, hM] at HC HF
  rw [hcd] at hcode
  rw [hM] at hset hlen HMEM
  clear hcd hM ha hb hra0 hrb0
  go_enter Tryd.func5, Tryd.ntmps5
  go_wp2_with fail
  go_region
  all_goals
    go_wp2_with fail
    refine (HC.out _ (Below.refl _ _).drew).mono ?_
    rintro e w1 ⟨v1, rfl, own1, hb1⟩
    obtain ⟨A1, q1, rfl, hq1⟩ := own_form own1
    have r1 : Row w1 w1.heap.size A1 (pv M) := own_row own1 (by decide)
    have b1 : Below w.heap.size w w1 := (Below.refl w.heap.size w).drew.trans hb1
    have x1 := Boxed.new w1 25 (.slice A1 M.length q1)
    have r1' : Row (w1.alloc (.cells #[.slice A1 M.length q1] 25)) (w1.alloc (.cells #[.slice A1 M.length q1] 25)).heap.size A1 (pv M) := (r1.alloc' _).more (by simp)
    have b1' := b1.alloc b1.size (.cells #[.slice A1 M.length q1] 25)
    clear r1 b1 own1 hb1
    go_wp2_with fail
    generalize w1.alloc _ = W1 at x1 r1' b1' ⊢
    refine (HF.out _ b1').mono ?_
    rintro e w2 ⟨v2, rfl, own2, hb2⟩
    obtain ⟨A2, q2, rfl, hq2⟩ := own_form own2
    have r2 : Row w2 w2.heap.size A2 (pv M) := own_row own2 (by decide)
    have r3 := (r1'.below hb2).more hb2.size
    have x2 : Boxed w2 w1.heap.size 25 (.slice A1 M.length q1) := (hb2.block _ x1.lt).trans x1
    have b2 := b1'.trans (hb2.mono b1'.size)
    clear x1 r1' b1' own2 hb2
    go_wp2_with fail
    refine (known_any _ (he.below b2)).mono ?_
    rintro e w3 ⟨rfl, hb3⟩
    have x3 : Boxed w3 w1.heap.size 25 (.slice A1 M.length q1) := (hb3.block _ x2.lt).trans x2
    have r4 := (r2.below hb3).more hb3.size
    have r5 := (r3.below hb3).more hb3.size
    have b3 := b2.trans (hb3.mono b2.size)
    have y3 := x3.cell
    clear x2 r2 r3 b2 hb3
    go_wp2_with fail
    refine (same_at hset (by omega) r5 r4 rfl rfl).mono ?_
    rintro e w4 ⟨rfl, hb4⟩
    have x4 : Boxed w4 w1.heap.size 25 (.slice A1 M.length q1) := (hb4.block _ x3.lt).trans x3
    have r6 := (r5.below hb4).more hb4.size
    have b4 := b3.trans (hb4.mono b3.size)
    clear x3 r4 r5 b3 hb4 y3
    have HH : Hid (∀ W, Below w4.heap.size w4 W → ∀ k : Nat, k < b.length → Calls Tryd.prog 17 #[.agg #[.slice A1 M.length q1], .int .i64 (k : Int)] W fun e w' => e = .returned (.bool (G.df a b k)) ∧ Below W.heap.size W w') := fun W h k hk => by
      have := has_at hset (by omega) (k : Int) (c := q1) ((r6.below h).more h.size) rfl
      rw [HMEM.out k hk] at this
      exact this
    have ra4 := hra.below b4
    have rb4 := hrb.below b4
    go_wp2_with fail
    go_loopw [9, 10] (fun v i wr => ∃ (k : Nat) (Ao : Option Addr) (co : Nat), k ≤ b.length ∧ i = .int .i64 (k : Int) ∧ v = .slice Ao k co ∧ k ≤ co ∧ wr.ownsRow w4.heap.size 5 1 (.slice Ao k co) k (bv (b.take k)) ∧ Below w4.heap.size w4 wr) (fun _ i _ => b.length - (intOf i).toNat)
    case atStart => exact ⟨0, none, 0, by omega, rfl, rfl, by omega, World.ownsRow_nil _ _ _ _, Below.refl _ _⟩
    case round =>
      obtain ⟨k, Ao, co, hk, rfl, rfl, hco, hown, hbr⟩ := hrel
      by_cases hlt : k < b.length
      · have X1 : Boxed wr w1.heap.size 25 (.slice A1 M.length q1) := (hbr.block _ x4.lt).trans x4
        have Y1 := X1.cell
        have HT : Hid (bv (b.take (k + 1)) = bv (b.take k) ++ bv [b[k]]) := by show _ = _; rw [List.take_succ_eq_append_getElem hlt, bv_append]
        have hcase : (G.df a b k = true) ∨ (G.df a b k = false ∧ ∃ h : k < a.length, a[k] = b[k]) := by
          cases hd : G.df a b k with
          | true => exact .inl rfl
          | false =>
            right
            refine ⟨rfl, ?_⟩
            rcases Nat.lt_or_ge k a.length with h | h
            · refine ⟨h, ?_⟩
              rw [G.df_ab h hlt] at hd
              simpa using hd
            · rw [G.df_a h hlt] at hd; cases hd
        have HHk := Lib.hid (HH.out wr hbr k hlt)
        rcases hcase with hd | ⟨hd, ha', hab⟩
        · rw [hd] at HHk
          obtain ⟨bb, oo, rfl, hbB, cb⟩ := rb4.byte hlt
          generalize b[k] = y at cb HT
          clear hd
          go_wp2_with fail
          refine HHk.out.mono ?_
          rintro e w5 ⟨rfl, hb5⟩
          have bw5 := hbr.trans (hb5.mono hbr.size)
          have own5 := own_below hown hb5
          have C5 := (bw5.cell (p := ⟨bb, oo + k, none⟩) (Nat.lt_of_lt_of_le hbB b4.size)).trans cb
          have hs5 := bw5.size
          go_wp2_with (at_builtin; refine wpList_append_row rfl (.tmp 56) (.tmp 61) rfl Tryd.underlying22 hi hz0 hz1 hz2 rfl (by decide) rfl (own5.alloc _) rfl (row_byte1 w5 y _) (by rfl) (bv_one _) (by simp only [maxLen]; omega) (by omega) (by simp; omega) ?_; intro v6 w6 own6 grow6; obtain ⟨A6, q6, rfl, hq6⟩ := own_form own6)
          go_roundw
          case rel => exact ⟨k + 1, A6, q6, by omega, by go_num, rfl, hq6, by rw [HT.out]; exact own6, (bw5.alloc hs5 _).grown grow6 (by simp; omega) (own_ge own5)⟩
          case measure => simp [intOf]; omega
        · rw [hd] at HHk
          obtain ⟨bb, oo, rfl, hbB, cb⟩ := ra4.byte ha'
          rw [hab] at cb
          generalize b[k] = y at cb HT hab
          clear hd hab
          go_wp2_with fail
          refine HHk.out.mono ?_
          rintro e w5 ⟨rfl, hb5⟩
          have bw5 := hbr.trans (hb5.mono hbr.size)
          have own5 := own_below hown hb5
          have C5 := (bw5.cell (p := ⟨bb, oo + k, none⟩) (Nat.lt_of_lt_of_le hbB b4.size)).trans cb
          have hs5 := bw5.size
          go_wp2_with (at_builtin; refine wpList_append_row rfl (.tmp 68) (.tmp 73) rfl Tryd.underlying22 hi hz0 hz1 hz2 rfl (by decide) rfl (own5.alloc _) rfl (row_byte1 w5 y _) (by rfl) (bv_one _) (by simp only [maxLen]; omega) (by omega) (by simp; omega) ?_; intro v6 w6 own6 grow6; obtain ⟨A6, q6, rfl, hq6⟩ := own_form own6)
          go_roundw
          case rel => exact ⟨k + 1, A6, q6, by omega, by go_num, rfl, hq6, by rw [HT.out]; exact own6, (bw5.alloc hs5 _).grown grow6 (by simp; omega) (own_ge own5)⟩
          case measure => simp [intOf]; omega
      · obtain rfl : k = b.length := by omega
        rw [List.take_length] at hown
        have k1 := conv_bytes co hwb (Row.of_own hown)
        have k2 := conv_bytes d hwb (rb4.below (hbr.mono b4.size))
        go_wp2_with fail
        go_ret
        exact ⟨by first | rfl | simp, b4.trans (hbr.mono b4.size)⟩
end Go.Proofs.YtgjoldjfeobjgaaDoor
