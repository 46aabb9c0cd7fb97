/-
  lineage.Valid; short.
-/
import Derived.Test.YtjgofoliikflaaaDoorParse
import Derived.Test.YtjgofoliikflaaaDoorWords
namespace Go.Proofs.YtjgofoliikflaaaDoor
open Go.RowKit

theorem parsed_ok {s : ByteArray} (h : L.bad s.data.toList = none) : parsed s = #[.string s, .int .i64 0, .int .i64 0] := by unfold parsed; rw [h]
theorem parsed_bad {s : ByteArray} {x : L.Part} (h : L.bad s.data.toList = some x) : parsed s = #[.string ⟨#[]⟩, .int .i64 (x.at_ : Int), .int .i64 (x.e : Int)] := by unfold parsed; rw [h]
theorem bad_e {l : List UInt8} {x : L.Part} (h : L.bad l = some x) : x.e ≠ 0 := by
  have := List.find?_some h
  simpa using this

theorem parse_ok {s : ByteArray} (hs : s.size ≤ maxLen) (h : L.bad s.data.toList = none) (w : World) :
    Calls Tryd.prog 15 #[.string s] w fun e w' => e = .returned (.tuple #[.string s, .int .i64 0, .int .i64 0]) ∧ Below w.heap.size w w' := by
  rw [← parsed_ok h]; exact parse_any s hs w
theorem parse_bad {s : ByteArray} (hs : s.size ≤ maxLen) {x : L.Part} (h : L.bad s.data.toList = some x) (w : World) :
    Calls Tryd.prog 15 #[.string s] w fun e w' => e = .returned (.tuple #[.string ⟨#[]⟩, .int .i64 (x.at_ : Int), .int .i64 (x.e : Int)]) ∧ Below w.heap.size w w' := by
  rw [← parsed_bad h]; exact parse_any s hs w

theorem valid_any (s : ByteArray) (hs : s.size ≤ maxLen) (w : World) :
    Calls Tryd.prog 18 #[.string s] w fun e w' => e = .returned (.bool (L.valid s.data.toList)) ∧ Below w.heap.size w w' := by
  cases hb : L.bad s.data.toList with
  | none =>
    have hv : L.valid s.data.toList = true := by simp [L.valid, hb]
    rw [hv]
    have H := Lib.hid (parse_ok hs hb)
    clear hb hv
    go_enter Tryd.func18, Tryd.ntmps18
    go_wp2_with (go_at_call 15; refine (H.out _).mono ?_; rintro e w' ⟨rfl, hb1⟩)
    go_ret
    exact ⟨rfl, hb1⟩
  | some x =>
    have hv : L.valid s.data.toList = false := by simp [L.valid, hb]
    rw [hv]
    have hx := bad_e hb
    have H := Lib.hid (parse_bad hs hb)
    have t1 : ((x.e : Int) == 0) = false := beq_eq_false_iff_ne.2 (by omega)
    clear hb hv hx
    go_enter Tryd.func18, Tryd.ntmps18
    go_wp2_with (go_at_call 15; refine (H.out _).mono ?_; rintro e w' ⟨rfl, hb1⟩)
    go_ret
    exact ⟨rfl, hb1⟩

theorem short_any (s : ByteArray) (hs : s.size ≤ maxLen) (w : World) :
    Calls Tryd.prog 21 #[.string s] w fun e w' => e = .returned (.string (bs (s.data.toList.take 80))) ∧ w = w' := by
  unfold maxLen at hs
  by_cases h : s.size ≤ 80
  · have e : bs (s.data.toList.take 80) = s := (bs_of (by rw [List.take_of_length_le (by simpa using h)])).symm
    rw [e]
    clear e
    go_enter Tryd.func21, Tryd.ntmps21
    go_wp2
    go_ret
    exact ⟨rfl, rfl⟩
  · have e : bs (s.data.toList.take 80) = s.extract 0 80 := (bs_of (by rw [Lib.extract_data]; simp)).symm
    rw [e]
    clear e
    go_enter Tryd.func21, Tryd.ntmps21
    go_wp2
    go_ret
    exact ⟨rfl, rfl⟩
end Go.Proofs.YtjgofoliikflaaaDoor
