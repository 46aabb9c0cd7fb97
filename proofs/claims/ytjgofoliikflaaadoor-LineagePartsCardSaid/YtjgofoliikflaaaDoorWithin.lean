/-
  Depth, Last, isOrdinal, Within, Parent, Root.
-/
import Derived.Test.YtjgofoliikflaaaDoorOrdinals
import Derived.Test.YtjgofoliikflaaaDoorNames
import Derived.Test.YtjgofoliikflaaaDoorShelf
namespace Go.Proofs.YtjgofoliikflaaaDoor
open Go.RowKit

theorem valid_of {s : ByteArray} {b : Bool} (hs : s.size ≤ 1000) (h : L.valid s.data.toList = b) (w : World) :
    Calls Tryd.prog 18 #[.string s] w fun e w' => e = .returned (.bool b) ∧ Below w.heap.size w w' := by
  rw [← h]; exact valid_any s (by simp only [maxLen]; omega) w
theorem ords_of {s : ByteArray} {l : List Nat} (hs : s.size ≤ 1000) (h : ordsOf s.data.toList = l) (w : World) :
    Calls Tryd.prog 17 #[.string s] w fun e w' => ∃ A c, e = .returned (.slice A l.length c) ∧ Row w' w'.heap.size A (nums l) ∧ l.length ≤ c ∧ Below w.heap.size w w' := by
  have := ordinals_any s (by simp only [maxLen]; omega) w
  unfold OrdPost at this
  rw [h] at this
  exact this

theorem ordsOf_length (l : List UInt8) : (ordsOf l).length ≤ 10 := by
  cases h : L.bad l with
  | none => rw [ordsOf_ok h, L.ords]; simpa using L.parts_length l
  | some x => rw [ordsOf_bad h]; simp
theorem depth_any (s : ByteArray) (hs : s.size ≤ 1000) (w : World) :
    Calls Tryd.prog 32 #[.string s] w fun e w' => e = .returned (.int .i64 ((ordsOf s.data.toList).length : Int)) ∧ Below w.heap.size w w' := by
  have H := Lib.hid (ords_of (s := s) hs rfl)
  generalize ordsOf s.data.toList = l at H ⊢
  go_enter Tryd.func32, Tryd.ntmps32
  go_wp2_with (go_at_call 17; refine (H.out _).mono ?_; rintro e w' ⟨A, c, rfl, hr, hcap, hb⟩)
  go_ret
  exact ⟨rfl, hb⟩

theorem last_any (s : ByteArray) (hs : s.size ≤ 1000) (w : World) :
    Calls Tryd.prog 33 #[.string s] w fun e w' => e = .returned (.int .i64 ((ordsOf s.data.toList).getLastD 0 : Int)) ∧ Below w.heap.size w w' := by
  have H := Lib.hid (ords_of (s := s) hs rfl)
  have h10 := ordsOf_length s.data.toList
  generalize ordsOf s.data.toList = l at H h10 ⊢
  by_cases h0 : l = []
  · subst h0
    go_enter Tryd.func33, Tryd.ntmps33
    go_wp2_with (go_at_call 17; refine (H.out _).mono ?_; rintro e w' ⟨A, c, rfl, hr, hcap, hb⟩)
    go_ret
    exact ⟨rfl, hb⟩
  · have hp : 0 < l.length := List.length_pos_iff.2 h0
    have hl : (l.getLastD 0) = l[l.length - 1] := by rw [List.getLastD_eq_getLast?, List.getLast?_eq_getElem?, List.getElem?_eq_getElem (by omega)]; rfl
    rw [hl]
    have t1 : ((l.length : Int) == 0) = false := beq_eq_false_iff_ne.2 (by omega)
    obtain ⟨n, hn⟩ : ∃ n, l.length = n + 1 := ⟨l.length - 1, by omega⟩
    have hx : ∀ (A : Option Addr) (w : World), Row w w.heap.size A (nums l) → ∃ b o, A = some ⟨b, o, none⟩ ∧ w.cell? ⟨b, o + n, none⟩ = some (.int .i64 ((l[l.length - 1] : Nat) : Int)) := by
      intro A w hr
      obtain ⟨b, o, h1, _, h3⟩ := hr.at_ (k := n) (by rw [nums_len]; omega)
      refine ⟨b, o, h1, h3 n _ ?_⟩
      rw [nums_at l n (by omega)]
      simp [hn]
    generalize l[l.length - 1] = x at hx ⊢
    have HX := Lib.hid hx
    have HN := Lib.hid hn
    have hn10 : n ≤ 10 := by omega
    have t2 : ((n : Int) + 1 == 0) = false := beq_eq_false_iff_ne.2 (by omega)
    clear hx h0 hl hn t1 hp h10
    go_enter Tryd.func33, Tryd.ntmps33
    go_wp2_with (go_at_call 17; refine (H.out _).mono ?_; rw [HN.out]; rintro e w' ⟨A, c, rfl, hr, hcap, hb⟩; obtain ⟨b, o, rfl, hc⟩ := HX.out A w' hr)
    go_ret
    exact ⟨rfl, hb⟩

theorem isOrdinal_any (n : Int) (w : World) :
    Calls Tryd.prog 43 #[.int .i64 n] w fun e w' => e = .returned (.bool (decide (1 ≤ n) && decide (n ≤ 999999))) ∧ w = w' := by
  by_cases h1 : 1 ≤ n
  · by_cases h2 : n ≤ 999999
    · have e : (decide (1 ≤ n) && decide (n ≤ 999999)) = true := by simp [h1, h2]
      rw [e]
      clear e
      go_enter Tryd.func43, Tryd.ntmps43
      go_wp2
      go_ret
      exact ⟨by simp [h1, h2], rfl⟩
    · have e : (decide (1 ≤ n) && decide (n ≤ 999999)) = false := by simp [h2]
      rw [e]
      clear e
      go_enter Tryd.func43, Tryd.ntmps43
      go_wp2
      go_ret
      exact ⟨by simp [h2], rfl⟩
  · have e : (decide (1 ≤ n) && decide (n ≤ 999999)) = false := by simp [h1]
    rw [e]
    clear e
    go_enter Tryd.func43, Tryd.ntmps43
    go_wp2
    go_ret
    exact ⟨by simp, rfl⟩

/-- Within, on the bytes. -/
def withinB (n a : List UInt8) : Bool := L.valid n && L.valid a && (decide (n = a) || a.isEmpty || Lib.hasPrefix n (a ++ [46]))

theorem within_res {n a : ByteArray} {r : Bool} (hr : Lib.hasPrefix n.data.toList (a ++ ⟨#[46]⟩).data.toList = r) :
    Ending.returned (.bool (n.toList == a.toList || a.toList.isEmpty || r)) = .returned (.bool (decide (n.data.toList = a.data.toList) || a.data.toList.isEmpty || Lib.hasPrefix n.data.toList (a.data.toList ++ [46]))) := by
  have e : Lib.hasPrefix n.data.toList (a.data.toList ++ [46]) = r := by rw [← hr, data_app]
  rw [e, Lib.toList_data, Lib.toList_data]
  congr 4
  rw [Bool.eq_iff_iff]; simp
theorem within_any (n a : ByteArray) (hn : n.size ≤ 1000) (ha : a.size ≤ 1000) (w : World) :
    Calls Tryd.prog 22 #[.string n, .string a] w fun e w' => e = .returned (.bool (withinB n.data.toList a.data.toList)) ∧ Below w.heap.size w w' := by
  cases h1 : L.valid n.data.toList with
  | false =>
    have e : withinB n.data.toList a.data.toList = false := by simp [withinB, h1]
    rw [e]
    have H1 := Lib.hid (valid_of hn h1)
    clear e h1
    go_enter Tryd.func22, Tryd.ntmps22
    go_wp2_with (go_at_call 18; refine (H1.out _).mono ?_; rintro e w' ⟨rfl, hb⟩)
    go_ret
    exact ⟨rfl, hb⟩
  | true =>
    have H1 := Lib.hid (valid_of hn h1)
    cases h2 : L.valid a.data.toList with
    | false =>
      have e : withinB n.data.toList a.data.toList = false := by simp [withinB, h2]
      rw [e]
      have H2 := Lib.hid (valid_of ha h2)
      clear e h1 h2
      go_enter Tryd.func22, Tryd.ntmps22
      go_wp2_with fail
      refine (H1.out _).mono ?_
      rintro e w1 ⟨rfl, hb1⟩
      go_wp2_with fail
      refine (H2.out _).mono ?_
      rintro e w2 ⟨rfl, hb2⟩
      go_wp2_with fail
      go_ret
      exact ⟨rfl, hb1.trans (hb2.mono hb1.size)⟩
    | true =>
      have H2 := Lib.hid (valid_of ha h2)
      have e : withinB n.data.toList a.data.toList = (decide (n.data.toList = a.data.toList) || a.data.toList.isEmpty || Lib.hasPrefix n.data.toList (a.data.toList ++ [46])) := by simp [withinB, h1, h2]
      rw [e]
      clear e h1 h2
      go_enter Tryd.func22, Tryd.ntmps22
      go_wp2_with fail
      refine (H1.out _).mono ?_
      rintro e w1 ⟨rfl, hb1⟩
      go_wp2_with fail
      refine (H2.out _).mono ?_
      rintro e w2 ⟨rfl, hb2⟩
      go_wp2_with fail
      · go_ret
        have h : n.toList = a.toList := by assumption
        rw [Lib.toList_data, Lib.toList_data] at h
        exact ⟨by simp [h], hb1.trans (hb2.mono hb1.size)⟩
      · go_ret
        have h : a.toList = [] := by assumption
        rw [Lib.toList_data] at h
        exact ⟨by simp [h], hb1.trans (hb2.mono hb1.size)⟩
      · skip
        refine (Tryd.strings_HasPrefix n _ w2).mono ?_
        rintro e w3 ⟨rfl, rfl⟩
        obtain ⟨r, hr⟩ : ∃ r, Lib.hasPrefix n.data.toList (a ++ ⟨#[46]⟩).data.toList = r := ⟨_, rfl⟩
        rw [hr]
        have HR := Lib.hid hr
        clear hr
        go_wp2_with fail
        go_ret
        exact ⟨within_res HR.out, hb1.trans (hb2.mono hb1.size)⟩

/-- Parent. -/
theorem parent_no (s : ByteArray) (hs : s.size ≤ 1000) (h : s.data.toList = [] ∨ L.valid s.data.toList = false) (w : World) :
    Calls Tryd.prog 31 #[.string s] w fun e w' => e = .returned (.tuple #[.string (bs []), .bool false]) ∧ Below w.heap.size w w' := by
  have e0 : bs [] = ⟨#[]⟩ := rfl
  rw [e0]
  clear e0
  by_cases h0 : s.data.toList = []
  · have h1 : s.toList = [] := (Lib.toList_data s).trans h0
    clear h h0
    go_enter Tryd.func31, Tryd.ntmps31
    go_wp2_with fail
    go_ret2
    exact ⟨rfl, Below.refl _ _⟩
  · have hv := h.resolve_left h0
    have H1 := Lib.hid (valid_of hs hv)
    have h1 : s.toList.isEmpty = false := by rw [Lib.toList_data]; simpa using h0
    clear h h0 hv
    go_enter Tryd.func31, Tryd.ntmps31
    go_wp2_with (go_at_call 18; refine (H1.out _).mono ?_; rintro e w' ⟨rfl, hb⟩)
    go_ret2
    exact ⟨rfl, hb⟩

theorem parent_yes (s : ByteArray) (hs : s.size ≤ 1000) (h0 : s.data.toList ≠ []) (hv : L.valid s.data.toList = true) {k : Nat} (hk : k ≤ s.size) (hi : Lib.lastIndexByte s 46 = (k : Int) ∨ (k = 0 ∧ Lib.lastIndexByte s 46 = -1)) (w : World) :
    Calls Tryd.prog 31 #[.string s] w fun e w' => e = .returned (.tuple #[.string (bs (s.data.toList.take k)), .bool true]) ∧ Below w.heap.size w w' := by
  have H1 := Lib.hid (valid_of hs hv)
  have h1 : s.toList.isEmpty = false := by rw [Lib.toList_data]; simpa using h0
  have HL : Hid (∀ w, Calls Tryd.prog 54 #[.string s, .int .u8 46] w fun e w' => e = .returned (.int .i64 (Lib.lastIndexByte s 46)) ∧ w' = w) := fun w => Tryd.strings_LastIndexByte s 46 (by omega) w
  have e : bs (s.data.toList.take k) = s.extract 0 k := (bs_of (by rw [Lib.extract_data]; simp)).symm
  rw [e]
  clear e h0 hv
  generalize Lib.lastIndexByte s 46 = m at hi HL
  rcases hi with rfl | ⟨rfl, rfl⟩
  · go_enter Tryd.func31, Tryd.ntmps31
    go_wp2_with (first | (go_at_call 18; refine (H1.out _).mono ?_; rintro e w' ⟨rfl, hb⟩) | (go_at_call 54; refine (HL.out _).mono ?_; rintro e w' ⟨rfl, rfl⟩))
    go_ret2
    exact ⟨rfl, hb⟩
  · go_enter Tryd.func31, Tryd.ntmps31
    go_wp2_with (first | (go_at_call 18; refine (H1.out _).mono ?_; rintro e w' ⟨rfl, hb⟩) | (go_at_call 54; refine (HL.out _).mono ?_; rintro e w' ⟨rfl, rfl⟩))
    go_ret2
    exact ⟨rfl, hb⟩

/-- Root. -/
theorem root_no (s : ByteArray) (hs : s.size ≤ 1000) (h : L.valid s.data.toList = false) (w : World) :
    Calls Tryd.prog 34 #[.string s] w fun e w' => e = .returned (.string (bs [])) ∧ Below w.heap.size w w' := by
  have e0 : bs [] = ⟨#[]⟩ := rfl
  rw [e0]
  clear e0
  have H1 := Lib.hid (valid_of hs h)
  clear h
  go_enter Tryd.func34, Tryd.ntmps34
  go_wp2_with (go_at_call 18; refine (H1.out _).mono ?_; rintro e w' ⟨rfl, hb⟩)
  go_ret
  exact ⟨rfl, hb⟩

theorem root_yes (s : ByteArray) (hs : s.size ≤ 1000) (h : L.valid s.data.toList = true) (m : Int) (w : World) (hg : 6 ≤ w.heap.size) (hm : w.cell? ⟨1, 0, none⟩ = some (.int .i64 m)) :
    Calls Tryd.prog 34 #[.string s] w fun e w' => e = .returned (.string (bs (Lib.cut s.data.toList [46]).1)) ∧ Below w.heap.size w w' := by
  have H1 := Lib.hid (valid_of hs h)
  have HC : Hid (∀ w : World, w.cell? ⟨1, 0, none⟩ = some (.int .i64 m) → Calls Tryd.prog 55 #[.string s, .string ⟨#[46]⟩] w fun e w' => e = .returned (.tuple #[.string (bs (Lib.cut s.data.toList [46]).1), .string (bs (Lib.cut s.data.toList [46]).2.1), .bool (Lib.cut s.data.toList [46]).2.2]) ∧ ∃ n, w' = w.drewN n) := fun w hm => by
    have := Tryd.strings_Cut s ⟨#[46]⟩ m w (by omega) hm
    exact this
  generalize Lib.cut s.data.toList [46] = r at HC ⊢
  obtain ⟨r1, r2, r3⟩ := r
  dsimp only at HC ⊢
  clear h
  go_enter Tryd.func34, Tryd.ntmps34
  go_wp2_with (go_at_call 18; refine (H1.out _).mono ?_; rintro e w' ⟨rfl, hb⟩)
  refine (HC.out _ ((hb.cell (p := ⟨1, 0, none⟩) (by show 1 < w.heap.size; omega)).trans hm)).mono ?_
  rintro e w2 ⟨rfl, n, rfl⟩
  go_wp2_with fail
  go_ret
  exact ⟨rfl, below_drewN2 hb n⟩
end Go.Proofs.YtjgofoliikflaaaDoor
