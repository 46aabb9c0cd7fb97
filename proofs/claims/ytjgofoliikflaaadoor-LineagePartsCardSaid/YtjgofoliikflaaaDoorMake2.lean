/-
  lineage.Make, the reference's Make, same.
-/
import Derived.Test.YtjgofoliikflaaaDoorMake
namespace Go.Proofs.YtjgofoliikflaaaDoor
open Go.RowKit Go.Shelf

/-- Integers as cells. -/
def ints (l : List Int) : List Value := l.map fun n => Value.int .i64 n
theorem ints_len (l : List Int) : (ints l).length = l.length := by simp [ints]
theorem ints_at (l : List Int) (k : Nat) (h : k < l.length) : (ints l)[k]? = some (.int .i64 l[k]) := by simp [ints, h]
theorem ints_nums (l : List Nat) : ints (l.map Int.ofNat) = nums l := by simp [ints, nums]
/-- An ordinal. -/
def isO (x : Int) : Bool := decide (1 ≤ x) && decide (x ≤ 999999)
theorem isO_iff {x : Int} : isO x = true ↔ 1 ≤ x ∧ x ≤ 999999 := by simp [isO]
/-- The texts of ordinals as cells. -/
def strs (l : List Nat) : List Value := l.map fun n => Value.string (bs (Lib.decDigits n))
theorem strs_snoc (l : List Nat) (n : Nat) : strs (l ++ [n]) = strs l ++ [.string (bs (Lib.decDigits n))] := by simp [strs]

theorem infoStr : (Tryd.prog.info? 9).map (fun i => (i.zero, i.size, i.bytes)) = some (some (.string ⟨#[]⟩), 1, 16) := by kernel_rfl

theorem join_any {l : List Nat} (hl : L.Ok l) {A : Option Addr} {c B : Nat} {w : World} (hr : Row w B A (strs l)) (hB : B ≤ w.heap.size) (hc : l.length ≤ c) :
    Calls Tryd.prog 45 #[.slice A l.length c, .string ⟨#[46]⟩] w fun e w' => e = .returned (.string (nm l)) ∧ Below w.heap.size w w' := by
  by_cases h0 : l = []
  · subst h0
    refine (Tryd.strings_Join_none A c ⟨#[46]⟩ w).mono ?_
    rintro e w' ⟨rfl, rfl⟩
    exact ⟨rfl, Below.refl _ _⟩
  · have hp : 0 < (strs l).length := by simpa [strs] using List.length_pos_iff.2 h0
    obtain ⟨b, o, rfl, hb, hcell⟩ := hr.at_ hp
    have hm : (l.map fun n => bs (Lib.decDigits n)).map (·.data.toList) = l.map Lib.decDigits := by simp [bs_data]
    have hj : Lib.join ((l.map fun n => bs (Lib.decDigits n)).map (·.data.toList)) (⟨#[46]⟩ : ByteArray).data.toList = L.text l := by
      rw [hm]; exact L.join_text l
    have hlen := ok_len hl
    have hlen2 : (L.text l).length ≤ 160 := by
      have : (nm l).size = (L.text l).length := bs_size _
      omega
    have h8 := hl.1
    have := Tryd.strings_Join b o c (l.map fun n => bs (Lib.decDigits n)) ⟨#[46]⟩ w (fun j x hx => hcell j _ (by
      rw [List.getElem?_map, Option.map_eq_some_iff] at hx
      obtain ⟨n, hn, rfl⟩ := hx
      simp [strs, hn])) (by omega) (by simp; omega) (by simp; omega) (by rw [hj]; omega)
    rw [hj, List.length_map] at this
    exact this

theorem make_limit {xs : List Int} (h : 8 < xs.length) (hm : xs.length ≤ maxLen) (A : Option Addr) (c : Nat) (w : World) :
    Calls Tryd.prog 12 #[.slice A xs.length c] w fun e w' => e = .returned (.tuple #[.string ⟨#[]⟩, .int .i64 9]) ∧ w = w' := by
  unfold maxLen at hm
  go_enter Tryd.func12, Tryd.ntmps12
  go_wp2_with fail
  go_ret2
  exact ⟨rfl, rfl⟩
theorem refmake_limit {xs : List Int} (h : 8 < xs.length) (hm : xs.length ≤ maxLen) (A : Option Addr) (c : Nat) (w : World) :
    Calls Tryd.prog 13 #[.slice A xs.length c] w fun e w' => e = .returned (.tuple #[.string ⟨#[]⟩, .int .i64 9]) ∧ w = w' := by
  unfold maxLen at hm
  go_enter Tryd.func13, Tryd.ntmps13
  go_wp2_with fail
  go_ret2
  exact ⟨rfl, rfl⟩

/-- The value of Make at at most 8 numbers. -/
def madeV (xs : List Int) : Array Value := if xs.all isO then #[.string (nm (xs.map Int.toNat)), .int .i64 0] else #[.string ⟨#[]⟩, .int .i64 2]
theorem madeV_bad {xs : List Int} {k : Nat} (h : k < xs.length) (hb : isO xs[k] = false) : madeV xs = #[.string ⟨#[]⟩, .int .i64 2] := by
  rw [madeV, if_neg]
  intro ha
  have := List.all_eq_true.1 ha xs[k] (List.getElem_mem h)
  rw [hb] at this; cases this
theorem madeV_ok {xs : List Int} (h : ∀ x ∈ xs, isO x = true) : madeV xs = #[.string (nm (xs.map Int.toNat)), .int .i64 0] := if_pos (List.all_eq_true.2 h)
theorem ok_of {xs : List Int} (h8 : xs.length ≤ 8) (h : ∀ x ∈ xs, isO x = true) : L.Ok (xs.map Int.toNat) :=
  ⟨by simpa using h8, fun y hy => by
    obtain ⟨x, hx, rfl⟩ := List.mem_map.1 hy
    have := isO_iff.1 (h x hx)
    omega⟩

set_option maxRecDepth 100000 in
set_option maxHeartbeats 800000 in
theorem make_any {xs : List Int} (h8 : xs.length ≤ 8) {A : Option Addr} {c B : Nat} {w : World} (hr : Row w B A (ints xs)) (hB : B ≤ w.heap.size) (he : Env w) :
    Calls Tryd.prog 12 #[.slice A xs.length c] w fun e w' => e = .returned (.tuple (madeV xs)) ∧ Below w.heap.size w w' := by
  obtain ⟨i0, hi, hz0, hz1, hz2⟩ := info_parts infoStr
  go_enter Tryd.func12, Tryd.ntmps12
  go_wp2_with (at_make; refine wpList_make_own _ rfl _ _ 62 rfl w.heap.size 9 i0 (.string ⟨#[]⟩) 1 Tryd.underlying62 hi hz0 hz1 _ _ _ xs.length rfl rfl rfl (by rw [hz2]; omega) (by simp only [maxLen]; omega) (Nat.le_refl _) ?_; intro w1 hown1 hgrow1)
  have hb1 : Below w.heap.size w w1 := (Below.refl _ _).grown hgrow1 (Nat.le_refl _) (fun k h => by cases h)
  have hr1 := hr.belowH hb1 hB
  have hB1 : B ≤ w1.heap.size := Nat.le_trans hB hb1.size
  have HO := Lib.hid (show ∃ g cap, w1.ownsRow w.heap.size 9 1 (.slice (some ⟨g, 0, none⟩) 0 cap) 0 (strs ((xs.take 0).map Int.toNat)) from ⟨_, _, hown1⟩)
  clear hgrow1
  go_wp2_with fail
  go_loopw [4, 15] (fun v i wr => ∃ (k g cap : Nat), v = .slice (some ⟨g, 0, none⟩) k cap ∧ i = .int .i64 (k : Int) ∧ k ≤ xs.length ∧ wr.ownsRow w.heap.size 9 1 (.slice (some ⟨g, 0, none⟩) k cap) k (strs ((xs.take k).map Int.toNat)) ∧ (∀ x ∈ xs.take k, isO x = true) ∧ Below w.heap.size w wr) (fun _ i _ => xs.length - (intOf i).toNat)
  case atStart => exact ⟨0, _, _, rfl, rfl, by omega, hown1, by simp, hb1⟩
  case round =>
    obtain ⟨k, g, cap, rfl, rfl, hk, hown, hall, hb⟩ := hrel
    have HA := Lib.hid hall
    clear hall
    by_cases hlt : k < xs.length
    · obtain ⟨bb, oo, rfl, _, hcell⟩ := hr.at_ (k := k) (by rw [ints_len]; exact hlt)
      have hc : wr.cell? ⟨bb, oo + k, none⟩ = some (.int .i64 xs[k]) := (hb.cell (p := ⟨bb, oo + k, none⟩) (by show bb < _; omega)).trans (hcell k _ (ints_at xs k hlt))
      clear hcell
      obtain ⟨x, hx⟩ : ∃ x, xs[k] = x := ⟨_, rfl⟩
      rw [hx] at hc
      have HX := Lib.hid hx
      clear hx
      cases ho : isO x with
      | false =>
        have HI : Hid (∀ w, Calls Tryd.prog 43 #[.int .i64 x] w fun e w' => e = .returned (.bool false) ∧ w = w') := fun w => by rw [← ho]; exact isOrdinal_any x w
        have HM : Hid (madeV xs = #[.string ⟨#[]⟩, .int .i64 2]) := madeV_bad hlt (by rw [HX.out]; exact ho)
        clear ho
        go_wp2_with (go_at_call 43; refine (HI.out _).mono ?_; rintro e w' ⟨rfl, rfl⟩)
        go_ret2
        exact ⟨by rw [HM.out]; rfl, hb⟩
      | true =>
        obtain ⟨x1, x2⟩ := isO_iff.1 ho
        obtain ⟨n, rfl⟩ := Int.eq_ofNat_of_zero_le (show 0 ≤ x by omega)
        have HI := Lib.hid (isOrd_yes (n := n) (by omega) (by omega))
        have HT := Lib.hid (itoa_any n (by omega))
        have HO := Lib.hid ho
        clear ho
        have htake : (xs.take (k + 1)).map Int.toNat = (xs.take k).map Int.toNat ++ [n] := by
          rw [List.take_succ_eq_append_getElem hlt, List.map_append, HX.out]; rfl
        have HK := Lib.hid htake
        clear htake
        go_wp2_with (go_at_call 43; refine (HI.out _).mono ?_; rintro e w' ⟨rfl, rfl⟩)
        refine (HT.out _ (he.below hb)).mono ?_
        rintro e w2 ⟨rfl, b2⟩
        have b2' := hb.trans (b2.mono hb.size)
        have hown2 : w2.ownsRow w.heap.size 9 1 (.slice (some ⟨g, 0, none⟩) k cap) k (strs ((xs.take k).map Int.toNat)) := own_below hown b2
        clear b2
        go_wp2_with (at_builtin; refine wpList_append_own _ rfl _ _ 62 rfl w.heap.size 9 i0 (.string ⟨#[]⟩) 1 16 Tryd.underlying62 hi hz0 hz1 hz2 rfl (by decide) _ _ _ rfl (hown2.alloc _) ⟨w2.heap.size, 0, none⟩ 1 1 [.string (bs (Lib.decDigits n))] rfl rfl (cell_one_new _ _ _) (by simp [Value.oneCell']) (by simp only [maxLen]; omega) (by omega) (by have := b2'.size; simp; omega) ?_; intro v' w3 hown' hgrow _; obtain ⟨g', cap', rfl⟩ := ownsRow_succ hown')
        go_roundw
        case rel => exact ⟨k + 1, g', cap', rfl, by go_num, by omega, by rw [HK.out, strs_snoc]; exact hown', fun y hy => by
          rw [List.take_succ_eq_append_getElem hlt] at hy
          rcases List.mem_append.1 hy with h | h
          · exact HA.out y h
          · rw [List.mem_singleton.1 h, HX.out]; exact HO.out, (b2'.alloc b2'.size _).grown hgrow (by have := b2'.size; simp; omega) (own_ge hown2)⟩
        case measure => simp [intOf]; omega
    · obtain rfl : k = xs.length := by omega
      have hall := HA.out
      rw [List.take_length] at hown hall
      have HM : Hid (madeV xs = #[.string (nm (xs.map Int.toNat)), .int .i64 0]) := madeV_ok hall
      have HJ := Lib.hid (join_any (ok_of h8 hall) (c := cap) (Row.of_own hown) (Nat.le_refl _) (by rw [List.length_map]; exact own_cap hown))
      rw [List.length_map] at HJ
      clear hall
      go_wp2_with fail
      refine HJ.out.mono ?_
      rintro e w2 ⟨rfl, b2⟩
      go_wp2_with fail
      go_ret2
      exact ⟨by rw [HM.out]; rfl, hb.trans (b2.mono hb.size)⟩

set_option maxHeartbeats 800000 in
theorem refmake_any {xs : List Int} (h8 : xs.length ≤ 8) {A : Option Addr} {c B : Nat} {w : World} (hr : Row w B A (ints xs)) (hB : B ≤ w.heap.size) :
    Calls Tryd.prog 13 #[.slice A xs.length c] w fun e w' => e = .returned (.tuple (madeV xs)) ∧ Below w.heap.size w w' := by
  go_enter Tryd.func13, Tryd.ntmps13
  go_wp2_with fail
  go_loop [4] (fun i => ∃ k : Nat, i = .int .i64 (k : Int) ∧ k ≤ xs.length ∧ (∀ x ∈ xs.take k, isO x = true)) (fun i => xs.length - (intOf i).toNat)
  case atStart => exact ⟨0, rfl, by omega, by simp⟩
  case round =>
    obtain ⟨k, rfl, hk, hall⟩ := hrel
    have HA := Lib.hid hall
    clear hall
    by_cases hlt : k < xs.length
    · obtain ⟨bb, oo, rfl, _, hcell⟩ := hr.at_ (k := k) (by rw [ints_len]; exact hlt)
      have hc : w.cell? ⟨bb, oo + k, none⟩ = some (.int .i64 xs[k]) := hcell k _ (ints_at xs k hlt)
      clear hcell
      obtain ⟨x, hx⟩ : ∃ x, xs[k] = x := ⟨_, rfl⟩
      rw [hx] at hc
      have HX := Lib.hid hx
      clear hx
      by_cases h1 : 1 ≤ x
      · by_cases h2 : x ≤ 999999
        · go_wp2_with fail
          go_round
          case rel => exact ⟨k + 1, by go_num, by omega, fun y hy => by
            rw [List.take_succ_eq_append_getElem hlt] at hy
            rcases List.mem_append.1 hy with h | h
            · exact HA.out y h
            · rw [List.mem_singleton.1 h, HX.out]; exact isO_iff.2 ⟨h1, h2⟩⟩
          case measure => simp [intOf]; omega
        · have HM : Hid (madeV xs = #[.string ⟨#[]⟩, .int .i64 2]) := madeV_bad hlt (by rw [HX.out]; simp [isO, h2])
          go_wp2_with fail
          go_ret2
          exact ⟨by rw [HM.out]; rfl, Below.refl _ _⟩
      · have HM : Hid (madeV xs = #[.string ⟨#[]⟩, .int .i64 2]) := madeV_bad hlt (by rw [HX.out]; simp [isO, h1])
        go_wp2_with fail
        go_ret2
        exact ⟨by rw [HM.out]; rfl, Below.refl _ _⟩
    · obtain rfl : k = xs.length := by omega
      have hall := HA.out
      rw [List.take_length] at hall
      have HM : Hid (madeV xs = #[.string (nm (xs.map Int.toNat)), .int .i64 0]) := madeV_ok hall
      have hok := ok_of h8 hall
      have hi : ints xs = nums (xs.map Int.toNat) := by
        unfold ints nums
        rw [List.map_map]
        refine List.map_congr_left fun x hx => ?_
        have := (isO_iff.1 (hall x hx)).1
        show Value.int .i64 x = .int .i64 ((x.toNat : Nat) : Int)
        rw [Int.toNat_of_nonneg (by omega)]
      have HT := Lib.hid (text_at (l := xs.map Int.toNat) (c := c) (by rw [← hi]; exact hr) hB (List.length_map _) (by omega) (fun u hu => by have := (hok.2 u hu).2; omega))
      clear hall hi
      go_wp2_with fail
      refine HT.out.mono ?_
      rintro e w2 ⟨rfl, b2⟩
      go_wp2_with fail
      go_ret2
      exact ⟨by rw [HM.out]; rfl, b2⟩
end Go.Proofs.YtjgofoliikflaaaDoor
