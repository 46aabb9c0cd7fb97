/-
  The reference's Valid, Within, Common and Compare.
-/
import Derived.Test.YtjgofoliikflaaaDoorRefParse
import Derived.Test.YtjgofoliikflaaaDoorPrefix
import Derived.Deep.QuietTactic
import Derived.BigQuiet
namespace Go.Proofs.YtjgofoliikflaaaDoor
open Go.RowKit

theorem rp_ok {s : ByteArray} (hs : s.size ≤ 1000) {l : List Nat} (h : L.bad s.data.toList = none) (ho : L.ords s.data.toList = l) (w : World) :
    Calls Tryd.prog 19 #[.string s] w fun e w' => ∃ A c, e = .returned (.tuple #[.slice A l.length c, .int .i64 0, .int .i64 0]) ∧ Row w' w'.heap.size A (nums l) ∧ l.length ≤ c ∧ Below w.heap.size w w' := by
  refine (refparse_any s (by omega) w).mono ?_
  rintro e w' ⟨h1 | ⟨x, h1, _⟩, hb⟩
  · obtain ⟨A, c, _, h2, h3, h4⟩ := h1
    rw [ho] at h2 h3 h4
    exact ⟨A, c, h2, h3, h4, hb⟩
  · rw [h] at h1; cases h1
theorem rp_bad {s : ByteArray} (hs : s.size ≤ 1000) {x : L.Part} (h : L.bad s.data.toList = some x) (w : World) :
    Calls Tryd.prog 19 #[.string s] w fun e w' => e = .returned (.tuple #[.slice none 0 0, .int .i64 (x.at_ : Int), .int .i64 (x.e : Int)]) ∧ Below w.heap.size w w' := by
  refine (refparse_any s (by omega) w).mono ?_
  rintro e w' ⟨⟨A, c, h1, _⟩ | ⟨x', h1, h2⟩, hb⟩
  · rw [h] at h1; cases h1
  · rw [h] at h1; cases h1; exact ⟨h2, hb⟩
theorem bad_ne {l : List UInt8} {x : L.Part} (h : L.bad l = some x) : ((x.e : Int) != 0) = true ∧ ((x.e : Int) == 0) = false := by
  have := List.find?_some h
  have h0 : x.e ≠ 0 := by simpa using this
  exact ⟨by rw [bne_iff_ne]; omega, beq_eq_false_iff_ne.2 (by omega)⟩

/-- Two slices of numbers in one world: the cells at an index. -/
theorem two_cells {W : World} {B1 B2 : Nat} {A1 A2 : Option Addr} {x y : List Nat} (h1 : Row W B1 A1 (nums x)) (h2 : Row W B2 A2 (nums y)) {i : Nat} (hx : i < x.length) (hy : i < y.length) :
    ∃ b1 o1 b2 o2, A1 = some ⟨b1, o1, none⟩ ∧ A2 = some ⟨b2, o2, none⟩ ∧ W.cell? ⟨b1, o1 + i, none⟩ = some (.int .i64 (x[i] : Int)) ∧ W.cell? ⟨b2, o2 + i, none⟩ = some (.int .i64 (y[i] : Int)) := by
  obtain ⟨b1, o1, e1, _, c1⟩ := h1.at_ (k := i) (by rw [nums_len]; exact hx)
  obtain ⟨b2, o2, e2, _, c2⟩ := h2.at_ (k := i) (by rw [nums_len]; exact hy)
  exact ⟨b1, o1, b2, o2, e1, e2, c1 i _ (nums_at x i hx), c2 i _ (nums_at y i hy)⟩

theorem refvalid_any (s : ByteArray) (hs : s.size ≤ 1000) (w : World) :
    Calls Tryd.prog 52 #[.string s] w fun e w' => e = .returned (.bool (L.valid s.data.toList)) ∧ Below w.heap.size w w' := by
  cases h : L.bad s.data.toList with
  | none =>
    have H := Lib.hid (rp_ok hs h rfl)
    rw [show L.valid s.data.toList = true by simp [L.valid, h]]
    clear h
    go_enter Tryd.func52, Tryd.ntmps52
    go_wp2_with (go_at_call 19; refine (H.out _).mono ?_; rintro e w1 ⟨A, c, rfl, _, _, hb⟩)
    go_ret
    exact ⟨rfl, hb⟩
  | some x =>
    have H := Lib.hid (rp_bad hs h)
    have t1 := (bad_ne h).2
    rw [show L.valid s.data.toList = false by simp [L.valid, h]]
    clear h
    go_enter Tryd.func52, Tryd.ntmps52
    go_wp2_with (go_at_call 19; refine (H.out _).mono ?_; rintro e w1 ⟨rfl, hb⟩)
    go_ret
    exact ⟨rfl, hb⟩

set_option maxHeartbeats 800000 in
theorem refwithin_ok {n a : ByteArray} (hn : n.size ≤ 1000) (ha : a.size ≤ 1000) {x y : List Nat} (h1 : L.bad n.data.toList = none) (o1 : L.ords n.data.toList = x) (h2 : L.bad a.data.toList = none) (o2 : L.ords a.data.toList = y)
    (lx : x.length ≤ 100) (ly : y.length ≤ 100) (w : World) :
    Calls Tryd.prog 23 #[.string n, .string a] w fun e w' => e = .returned (.bool (y.isPrefixOf x)) ∧ Below w.heap.size w w' := by
  have H1 := Lib.hid (rp_ok hn h1 o1)
  have H2 := Lib.hid (rp_ok ha h2 o2)
  clear h1 h2 o1 o2
  by_cases hlen : x.length < y.length
  · rw [L.pfx_len hlen]
    go_enter Tryd.func23, Tryd.ntmps23
    go_wp2_with fail
    refine (H1.out _).mono ?_
    rintro e w1 ⟨A1, c1, rfl, r1, k1, b1⟩
    go_wp2_with fail
    refine (H2.out _).mono ?_
    rintro e w2 ⟨A2, c2, rfl, r2, k2, b2⟩
    go_wp2_with fail
    go_ret
    exact ⟨rfl, b1.trans (b2.mono b1.size)⟩
  · have hle : y.length ≤ x.length := by omega
    clear hlen
    go_enter Tryd.func23, Tryd.ntmps23
    go_wp2_with fail
    refine (H1.out _).mono ?_
    rintro e w1 ⟨A1, c1, rfl, r1, k1, b1⟩
    go_wp2_with fail
    refine (H2.out _).mono ?_
    rintro e w2 ⟨A2, c2, rfl, r2, k2, b2⟩
    have r1' := r1.belowH b2 (Nat.le_refl _)
    have hb := b1.trans (b2.mono b1.size)
    clear r1 b1 b2
    go_wp2_with fail
    go_loopw [11] (fun i wr => ∃ k q : Nat, k ≤ y.length ∧ i = .int .i64 (k : Int) ∧ y.take k = x.take k ∧ wr = w2.drewN q) (fun i _ => y.length - (intOf i).toNat)
    case atStart => exact ⟨0, 0, by omega, rfl, rfl, rfl⟩
    case round =>
      obtain ⟨k, q, hk, rfl, ht, rfl⟩ := hrel
      have HT := Lib.hid ht
      clear ht
      by_cases hlt : k < y.length
      · have hltx : k < x.length := by omega
        obtain ⟨bb1, oo1, bb2, oo2, rfl, rfl, cc1, cc2⟩ := two_cells r1' r2 hltx hlt
        obtain ⟨u, hu⟩ : ∃ u, x[k] = u := ⟨_, rfl⟩
        obtain ⟨v, hv⟩ : ∃ v, y[k] = v := ⟨_, rfl⟩
        rw [hu] at cc1
        rw [hv] at cc2
        have HU := Lib.hid hu
        have HV := Lib.hid hv
        clear hu hv
        by_cases huv : u = v
        · have t1 : ((u : Int) != (v : Int)) = false := by rw [bne_eq_false_iff_eq]; omega
          have HE := Lib.hid huv
          clear huv
          go_wp2_with fail
          go_quiet (fail)
          go_wp2_with fail
          go_roundw
          case rel => exact ⟨k + 1, _, by omega, by go_num, L.take_same hlt hltx (by rw [HU.out, HV.out]; exact HE.out) HT.out, rfl⟩
          case measure => simp [intOf]; omega
        · have t1 : ((u : Int) != (v : Int)) = true := by rw [bne_iff_ne]; omega
          have HE : Hid (y.isPrefixOf x = false) := L.pfx_at hlt hltx (by rw [HU.out, HV.out]; exact huv)
          clear huv
          go_wp2_with fail
          go_quiet (fail)
          go_wp2_with fail
          go_ret
          exact ⟨by rw [HE.out]; rfl, below_drewN2 (below_drewN2 hb _) _⟩
      · obtain rfl : k = y.length := by omega
        have HE : Hid (y.isPrefixOf x = true) := L.pfx_all hle HT.out
        go_wp2_with fail
        go_ret
        exact ⟨by rw [HE.out]; rfl, below_drewN2 hb _⟩
theorem refwithin_no {n a : ByteArray} (hn : n.size ≤ 1000) (ha : a.size ≤ 1000) (h : L.valid n.data.toList = false ∨ L.valid a.data.toList = false) (w : World) :
    Calls Tryd.prog 23 #[.string n, .string a] w fun e w' => e = .returned (.bool false) ∧ Below w.heap.size w w' := by
  cases h1 : L.bad n.data.toList with
  | some x =>
    have H1 := Lib.hid (rp_bad hn h1)
    have t1 := (bad_ne h1).1
    clear h1 h
    cases h2 : L.bad a.data.toList with
    | some y =>
      have H2 := Lib.hid (rp_bad ha h2)
      clear h2
      go_enter Tryd.func23, Tryd.ntmps23
      go_wp2_with fail
      refine (H1.out _).mono ?_
      rintro e w1 ⟨rfl, b1⟩
      go_wp2_with fail
      refine (H2.out _).mono ?_
      rintro e w2 ⟨rfl, b2⟩
      go_wp2_with fail
      go_ret
      exact ⟨rfl, b1.trans (b2.mono b1.size)⟩
    | none =>
      have H2 := Lib.hid (rp_ok ha h2 rfl)
      clear h2
      go_enter Tryd.func23, Tryd.ntmps23
      go_wp2_with fail
      refine (H1.out _).mono ?_
      rintro e w1 ⟨rfl, b1⟩
      go_wp2_with fail
      refine (H2.out _).mono ?_
      rintro e w2 ⟨A2, c2, rfl, r2, k2, b2⟩
      go_wp2_with fail
      go_ret
      exact ⟨rfl, b1.trans (b2.mono b1.size)⟩
  | none =>
    have H1 := Lib.hid (rp_ok hn h1 rfl)
    cases h2 : L.bad a.data.toList with
    | some y =>
      have H2 := Lib.hid (rp_bad ha h2)
      have t2 := (bad_ne h2).1
      clear h1 h2 h
      go_enter Tryd.func23, Tryd.ntmps23
      go_wp2_with fail
      refine (H1.out _).mono ?_
      rintro e w1 ⟨A1, c1, rfl, r1, k1, b1⟩
      go_wp2_with fail
      refine (H2.out _).mono ?_
      rintro e w2 ⟨rfl, b2⟩
      go_wp2_with fail
      go_ret
      exact ⟨rfl, b1.trans (b2.mono b1.size)⟩
    | none =>
      simp [L.valid, h1, h2] at h

set_option maxHeartbeats 800000 in
theorem refcommon_ok {n a : ByteArray} (hn : n.size ≤ 1000) (ha : a.size ≤ 1000) {x y : List Nat} (h1 : L.bad n.data.toList = none) (o1 : L.ords n.data.toList = x) (h2 : L.bad a.data.toList = none) (o2 : L.ords a.data.toList = y)
    (lx : x.length ≤ 100) (ly : y.length ≤ 100) (xx : ∀ u ∈ x, u ≤ 9223372036854775807) (w : World) :
    Calls Tryd.prog 25 #[.string n, .string a] w fun e w' => e = .returned (.string (bs (L.text (L.lcp x y)))) ∧ Below w.heap.size w w' := by
  have H1 := Lib.hid (rp_ok hn h1 o1)
  have H2 := Lib.hid (rp_ok ha h2 o2)
  have HX := Lib.hid xx
  clear h1 h2 o1 o2 xx
  go_enter Tryd.func25, Tryd.ntmps25
  go_wp2_with fail
  refine (H1.out _).mono ?_
  rintro e w1 ⟨A1, c1, rfl, r1, k1, b1⟩
  go_wp2_with fail
  refine (H2.out _).mono ?_
  rintro e w2 ⟨A2, c2, rfl, r2, k2, b2⟩
  have r1' := r1.belowH b2 (Nat.le_refl _)
  have hb := b1.trans (b2.mono b1.size)
  have hB1 : w1.heap.size ≤ w2.heap.size := b2.size
  clear r1 b1 b2
  go_wp2_with fail
  go_loopw [11] (fun i wr => ∃ k q : Nat, k ≤ x.length ∧ k ≤ y.length ∧ i = .int .i64 (k : Int) ∧ x.take k = y.take k ∧ wr = w2.drewN q) (fun i _ => y.length - (intOf i).toNat)
  case atStart => exact ⟨0, 0, by omega, by omega, rfl, rfl, rfl⟩
  case round =>
    obtain ⟨k, q, hkx, hky, rfl, ht, rfl⟩ := hrel
    have HT := Lib.hid ht
    clear ht
    by_cases hstop : k < x.length ∧ k < y.length
    · obtain ⟨hltx, hlty⟩ := hstop
      obtain ⟨bb1, oo1, bb2, oo2, rfl, rfl, cc1, cc2⟩ := two_cells r1' r2 hltx hlty
      obtain ⟨u, hu⟩ : ∃ u, x[k] = u := ⟨_, rfl⟩
      obtain ⟨v, hv⟩ : ∃ v, y[k] = v := ⟨_, rfl⟩
      rw [hu] at cc1
      rw [hv] at cc2
      have HU := Lib.hid hu
      have HV := Lib.hid hv
      clear hu hv
      by_cases huv : u = v
      · have t1 : ((u : Int) == (v : Int)) = true := beq_iff_eq.2 (by omega)
        have HE := Lib.hid huv
        clear huv
        go_wp2_with fail
        go_quiet (fail)
        go_wp2_with fail
        go_roundw
        case rel => exact ⟨k + 1, _, by omega, by omega, by go_num, L.take_same hltx hlty (by rw [HU.out, HV.out]; exact HE.out.symm) HT.out, rfl⟩
        case measure => simp [intOf]; omega
      · have t1 : ((u : Int) == (v : Int)) = false := beq_eq_false_iff_ne.2 (by omega)
        have HE : Hid (L.lcp x y = x.take k) := L.lcp_take k x y HT.out (by omega) (by omega) (fun _ _ => by rw [HU.out, HV.out]; exact huv)
        have hkc : k ≤ c1 := by omega
        clear huv
        go_wp2_with fail
        go_quiet (fail)
        go_wp2_with fail
        refine (text_at (l := x.take k) (k := k) (c := c1) (w := w2.drewN _) (B := w1.heap.size) (by rw [nums_take]; exact r1'.take k) hB1 (by rw [List.length_take]; omega) (by omega) (fun u hu => HX.out u (List.mem_of_mem_take hu))).mono ?_
        rintro e w3 ⟨rfl, b3⟩
        go_wp2_with fail
        go_ret
        exact ⟨by rw [HE.out]; rfl, (below_drewN2 hb _).trans (b3.mono hb.size)⟩
    · have HE : Hid (L.lcp x y = x.take k) := L.lcp_take k x y HT.out (by omega) (by omega) (fun q1 q2 => absurd ⟨q1, q2⟩ hstop)
      have hkc : k ≤ c1 := by omega
      by_cases hltx : k < x.length
      · have hge : y.length ≤ k := by omega
        have hd : decide (k < y.length) = false := by simp; omega
        clear hstop
        go_wp2_with fail
        go_quiet (fail)
        go_wp2_with fail
        refine (text_at (l := x.take k) (k := k) (c := c1) (w := w2.drewN _) (B := w1.heap.size) (by rw [nums_take]; exact r1'.take k) hB1 (by rw [List.length_take]; omega) (by omega) (fun u hu => HX.out u (List.mem_of_mem_take hu))).mono ?_
        rintro e w3 ⟨rfl, b3⟩
        go_wp2_with fail
        go_ret
        exact ⟨by rw [HE.out]; rfl, (below_drewN2 hb _).trans (b3.mono hb.size)⟩
      · have hge : x.length ≤ k := by omega
        have hd : decide (k < x.length) = false := by simp; omega
        clear hstop
        go_wp2_with fail
        go_quiet (fail)
        go_wp2_with fail
        refine (text_at (l := x.take k) (k := k) (c := c1) (w := w2.drewN _) (B := w1.heap.size) (by rw [nums_take]; exact r1'.take k) hB1 (by rw [List.length_take]; omega) (by omega) (fun u hu => HX.out u (List.mem_of_mem_take hu))).mono ?_
        rintro e w3 ⟨rfl, b3⟩
        go_wp2_with fail
        go_ret
        exact ⟨by rw [HE.out]; rfl, (below_drewN2 hb _).trans (b3.mono hb.size)⟩
end Go.Proofs.YtjgofoliikflaaaDoor
