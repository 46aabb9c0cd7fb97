/-
  lineage: Within, Parent, Root, Common, on names; the environment of library variables; Itoa, Child, Make.
-/
import Derived.Test.YtjgofoliikflaaaDoorRefCompare
import Derived.Deep.LoopGhost
import Derived.Test.YtjgofoliikflaaaDoorNames2
import Derived.WalkSmall
namespace Go.Proofs.YtjgofoliikflaaaDoor
open Go.RowKit

/-- The name with these ordinals. -/
def nm (l : List Nat) : ByteArray := bs (L.text l)
theorem nm_data (l : List Nat) : (nm l).data.toList = L.text l := rfl
theorem nm_valid {l : List Nat} (h : L.Ok l) : L.valid (nm l).data.toList = true := valid_none (L.bad_text h).1
theorem nm_of {s : ByteArray} (h : L.valid s.data.toList = true) : ∃ l, L.Ok l ∧ s = nm l ∧ ordsOf s.data.toList = l := by
  cases hb : L.bad s.data.toList with
  | some x => rw [valid_some hb] at h; cases h
  | none =>
    obtain ⟨h1, h2⟩ := L.text_ords hb
    exact ⟨_, h2, bs_of h1.symm, ordsOf_ok hb⟩
theorem ok_len {l : List Nat} (h : L.Ok l) : (nm l).size ≤ 160 := by
  show (bs (L.text l)).size ≤ _
  rw [bs_size]
  have := L.text_len l (fun x hx => by have := (h.2 x hx).2; omega)
  have := h.1
  omega
theorem ok_take {l : List Nat} (h : L.Ok l) (k : Nat) : L.Ok (l.take k) := ⟨by rw [List.length_take]; have := h.1; omega, fun x hx => h.2 x (List.mem_of_mem_take hx)⟩
theorem ok_prefix {l m : List Nat} (h : L.Ok l) (hp : m <+: l) : L.Ok m := by
  obtain ⟨r, rfl⟩ := hp
  exact ⟨by have := h.1; simp at this; omega, fun x hx => h.2 x (by simp [hx])⟩

theorem withinB_nm {n a : List Nat} (hn : L.Ok n) (ha : L.Ok a) : withinB (nm n).data.toList (nm a).data.toList = a.isPrefixOf n := by
  unfold withinB
  rw [nm_valid hn, nm_valid ha, nm_data, nm_data, Bool.true_and, Bool.true_and]
  exact L.within_text hn ha
theorem within_nm {n a : List Nat} {r : Bool} (hn : L.Ok n) (ha : L.Ok a) (h : a.isPrefixOf n = r) (w : World) :
    Calls Tryd.prog 22 #[.string (nm n), .string (nm a)] w fun e w' => e = .returned (.bool r) ∧ Below w.heap.size w w' := by
  have := within_any (nm n) (nm a) (by have := ok_len hn; omega) (by have := ok_len ha; omega) w
  rw [withinB_nm hn ha, h] at this
  exact this
theorem parent_nm {l : List Nat} (hl : L.Ok l) (h0 : l ≠ []) (w : World) :
    Calls Tryd.prog 31 #[.string (nm l)] w fun e w' => e = .returned (.tuple #[.string (nm l.dropLast), .bool true]) ∧ Below w.heap.size w w' := by
  obtain ⟨init, n, rfl⟩ : ∃ init n, l = init ++ [n] := ⟨l.dropLast, l.getLast h0, (List.dropLast_concat_getLast h0).symm⟩
  rw [List.dropLast_concat]
  have hsz := ok_len hl
  have hk : (L.text init).length ≤ (nm (init ++ [n])).size := by
    show _ ≤ (bs _).size
    rw [bs_size]
    have := congrArg List.length (L.parent_take init n)
    rw [List.length_take] at this
    omega
  have := parent_yes (nm (init ++ [n])) (by omega) (L.text_ne h0) (nm_valid hl) (k := (L.text init).length) hk
    (by rcases L.parent_text init n with ⟨_, h⟩ | ⟨rfl, h⟩
        · exact .inl h
        · exact .inr ⟨rfl, h⟩) w
  rw [nm_data, L.parent_take] at this
  exact this

set_option maxHeartbeats 400000 in
theorem common_nm {x y : List Nat} (hx : L.Ok x) (hy : L.Ok y) (w : World) :
    Calls Tryd.prog 24 #[.string (nm x), .string (nm y)] w fun e w' => e = .returned (.string (nm (L.lcp x y))) ∧ Below w.heap.size w w' := by
  have H1 := Lib.hid (valid_of (s := nm x) (by have := ok_len hx; omega) (nm_valid hx))
  have H2 := Lib.hid (valid_of (s := nm y) (by have := ok_len hy; omega) (nm_valid hy))
  go_enter Tryd.func24, Tryd.ntmps24
  go_wp2_with fail
  refine (H1.out _).mono ?_
  rintro e w1 ⟨rfl, b1⟩
  go_wp2_with fail
  refine (H2.out _).mono ?_
  rintro e w2 ⟨rfl, b2⟩
  have hb := b1.trans (b2.mono b1.size)
  clear b1 b2
  go_wp2_with fail
  go_loopg [0] x.length (fun k p wr => ∃ z : List Nat, p = .string (nm z) ∧ z <+: x ∧ L.lcp x y <+: z ∧ z.length ≤ k ∧ Below w.heap.size w wr)
  case atStart => exact ⟨x, rfl, List.prefix_refl _, L.lcp_prefix _ _, Nat.le_refl _, hb⟩
  case round =>
    obtain ⟨z, rfl, hzx, hlz, hzk, hbz⟩ := hrel
    have hz : L.Ok z := ok_prefix hx hzx
    cases hw : z.isPrefixOf y with
    | true =>
      have hzy := List.isPrefixOf_iff_prefix.1 hw
      have e : z = L.lcp x y := (hlz.eq_of_length_le (List.IsPrefix.length_le (L.lcp_most hzx hzy))).symm
      have HW := Lib.hid (within_nm hy hz hw)
      have HE := Lib.hid e
      clear e hw hzy
      go_wp2_with fail
      refine (HW.out _).mono ?_
      rintro e w3 ⟨rfl, b3⟩
      go_wp2_with fail
      go_ret
      exact ⟨by rw [← HE.out]; rfl, hbz.trans (b3.mono hbz.size)⟩
    | false =>
      have hz0 : z ≠ [] := by rintro rfl; simp at hw
      have hne : L.lcp x y ≠ z := by
        intro e
        have := List.isPrefixOf_iff_prefix.2 (e ▸ L.lcp_prefix' x y : z <+: y)
        rw [hw] at this; cases this
      have hlz' : L.lcp x y <+: z.dropLast := by
        obtain ⟨r, hr⟩ := hlz
        have hr0 : r ≠ [] := by rintro rfl; simp at hr; exact hne hr
        rw [← hr, List.dropLast_append_of_ne_nil hr0]
        exact List.prefix_append _ _
      have HW := Lib.hid (within_nm hy hz hw)
      have HP := Lib.hid (parent_nm hz hz0)
      have hlen : 0 < z.length := List.length_pos_iff.2 hz0
      clear hw hne hz0
      go_wp2_with fail
      refine (HW.out _).mono ?_
      rintro e w3 ⟨rfl, b3⟩
      have b3' := hbz.trans (b3.mono hbz.size)
      clear b3
      go_wp2_with fail
      refine (HP.out _).mono ?_
      rintro e w4 ⟨rfl, b4⟩
      go_wp2_with fail
      go_roundg (z.length - 1)
      case measure => omega
      case rel => exact ⟨_, rfl, (List.dropLast_prefix z).trans hzx, hlz', by rw [List.length_dropLast]; exact Nat.le_refl _, b3'.trans (b4.mono b3'.size)⟩

theorem common_no {a b : ByteArray} (ha : a.size ≤ 1000) (hb : b.size ≤ 1000) (h : L.valid a.data.toList = false ∨ L.valid b.data.toList = false) (w : World) :
    Calls Tryd.prog 24 #[.string a, .string b] w fun e w' => e = .returned (.string ⟨#[]⟩) ∧ Below w.heap.size w w' := by
  cases h1 : L.valid a.data.toList with
  | false =>
    have H1 := Lib.hid (valid_of ha h1)
    clear h h1
    go_enter Tryd.func24, Tryd.ntmps24
    go_wp2_with fail
    refine (H1.out _).mono ?_
    rintro e w1 ⟨rfl, b1⟩
    go_wp2_with fail
    go_ret
    exact ⟨rfl, b1⟩
  | true =>
    have h2 : L.valid b.data.toList = false := h.resolve_left (by rw [h1]; simp)
    have H1 := Lib.hid (valid_of ha h1)
    have H2 := Lib.hid (valid_of hb h2)
    clear h h1 h2
    go_enter Tryd.func24, Tryd.ntmps24
    go_wp2_with fail
    refine (H1.out _).mono ?_
    rintro e w1 ⟨rfl, b1⟩
    go_wp2_with fail
    refine (H2.out _).mono ?_
    rintro e w2 ⟨rfl, b2⟩
    go_wp2_with fail
    go_ret
    exact ⟨rfl, b1.trans (b2.mono b1.size)⟩
end Go.Proofs.YtjgofoliikflaaaDoor
