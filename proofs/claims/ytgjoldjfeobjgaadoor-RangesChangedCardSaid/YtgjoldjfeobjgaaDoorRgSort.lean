/-
  slices.SortFunc at ranges, by the beginnings.
-/
import Derived.Test.YtgjoldjfeobjgaaDoorRgAppend
import Derived.Test.YtgjoldjfeobjgaaDoorShelf
import Derived.Shelf.SlSortCmp.NoneTotal
namespace Go.Proofs.YtgjoldjfeobjgaaDoor
open Go.RowKit Go.Shelf
open Go.Sort (flatK size_flatK get_flatK putRowK HoldsK)

def encR (x : G.Rg) : List Value := [.int .i64 x.1, .int .i64 x.2]
theorem of1_any (x y : G.Rg) (W : World) : Calls Tryd.prog 57 #[.agg #[.int .i64 x.1, .int .i64 x.2], .agg #[.int .i64 y.1, .int .i64 y.2]] W fun e w' =>
    e = .returned (.int .i64 (Lib.compareInt x.1 y.1)) ∧ ∃ q os', w' = Go.Sort.grow (W.drewN q) os' := by
  have hcon : Hid (∀ W', Calls Tryd.prog 58 #[.int .i64 x.1, .int .i64 y.1] W' fun e w' => e = .returned (.int .i64 (Lib.compareInt x.1 y.1)) ∧ w' = W') := fun W' => Tryd.cmp_Compare_int x.1 y.1 W'
  generalize Lib.compareInt x.1 y.1 = r at hcon ⊢
  go_enter Tryd.func57, Tryd.ntmps57
  go_wp2_with (go_at_call 58; refine (hcon.out _).mono ?_; rintro e w' ⟨rfl, rfl⟩)
  go_ret
  exact ⟨rfl, 0, _, by rw [Go.Sort.alloc_eq_grow, Go.Sort.alloc_eq_grow, Go.Sort.grow_grow]; rfl⟩
theorem ltR (x y : G.Rg) : ltOf (fun x y : G.Rg => Lib.compareInt x.1 y.1) x y = decide (x.1 < y.1) := by
  unfold ltOf Lib.compareInt
  by_cases h1 : x.1 < y.1
  · simp [h1]
  · by_cases h2 : y.1 < x.1 <;> simp [h1, h2]
theorem swoR : Go.Sort.SWO (ltOf fun x y : G.Rg => Lib.compareInt x.1 y.1) where
  irrefl x := by rw [ltR]; simp
  trans x y z h1 h2 := by rw [ltR] at *; simp at *; omega
  ntrans x y z h1 h2 := by rw [ltR] at *; simp at *; omega
theorem flat_at (d : Array G.Rg) (t : Nat) (h : t < d.size * 2) : (pv d.toList)[t]? = some ((encR d[t / 2]!)[t % 2]!) := by
  have hk : t / 2 < d.size := by omega
  have hd : d[t / 2]! = d.toList[t / 2]'(by simpa using hk) := by rw [getElem!_pos d (t / 2) hk]; simp
  rw [hd]
  rcases Nat.mod_two_eq_zero_or_one t with h0 | h1
  · rw [h0]
    have := pv_from d.toList (t / 2) (by simpa using hk)
    rw [show t / 2 * 2 = t by omega] at this
    rw [this]; rfl
  · rw [h1]
    have := pv_to d.toList (t / 2) (by simpa using hk)
    rw [show t / 2 * 2 + 1 = t by omega] at this
    rw [this]; rfl
theorem flat_pv (d : Array G.Rg) : flatK encR 2 d = (pv d.toList).toArray := by
  have hs : (flatK encR 2 d).size = (pv d.toList).toArray.size := by rw [size_flatK]; simp [pv_len]
  refine Array.ext hs fun t h1 h2 => ?_
  have ht : t < d.size * 2 := by rw [size_flatK] at h1; exact h1
  have e1 := get_flatK encR 2 d t ht
  rw [getElem!_pos _ t h1] at e1
  have e2 := flat_at d t ht
  rw [e1]
  have h3 : t < (pv d.toList).length := by simpa using h2
  rw [List.getElem?_eq_getElem h3] at e2
  simpa using (Option.some.inj e2).symm
theorem grown_sort (enc : G.Rg → List Value) (k : Nat) (w : World) (blk off n : Nat) (d : Array G.Rg) (os : Array Obj) : w.grownBy (sortWorldK enc k w blk off n d os) (some blk) := by
  refine ⟨rfl, rfl, rfl, ?_, fun i hi hne => ?_⟩
  · unfold sortWorldK Go.Sort.grow putRowK Go.Sort.putRow
    simp [Go.Sort.mapBlock, Go.Sort.ahead]
  · have hne' : blk ≠ i := fun e => hne (by rw [e])
    unfold sortWorldK Go.Sort.grow putRowK Go.Sort.putRow
    simp only [Go.Sort.mapBlock, Go.Sort.ahead]
    rw [Array.getElem?_append_left (by simpa using hi), Array.getElem?_modify, if_neg hne']

theorem sort_any {w : World} {base : Nat} {A : Option Addr} {c : Nat} {l : List G.Rg} (h : w.ownsRow base 61 2 (.slice A l.length c) l.length (pv l)) (hn : l.length ≤ 100000) :
    Calls Tryd.prog 56 #[.slice A l.length c, .func (.func 57) #[] #[]] w fun e w' =>
      e = .returned (.tuple #[]) ∧ ∃ l', l'.Perm l ∧ l'.Pairwise (fun a b => a.1 ≤ b.1) ∧ Row w' w'.heap.size A (pv l') ∧ w.grownBy w' (Value.slice A l.length c).ownBlock := by
  by_cases h0 : l.length = 0
  · have hl : l = [] := List.eq_nil_of_length_eq_zero h0
    subst hl
    have := AnyF.slices_SortFunc_none Tryd.sortR A c (.func (.func 57) #[] #[]) w
    exact this.mono fun e w' ⟨he, hw⟩ => ⟨he, [], List.Perm.refl _, List.Pairwise.nil, .inl rfl, by rw [hw]; exact World.grownBy.refl w _⟩
  · obtain ⟨g, cap, hv, hbg, hg⟩ := h.form (by omega)
    injection hv with hA hl hc
    subst hA
    have eg : ∀ args w, (callFunc 57 args).run Tryd.prog w = .ok (.enter 57 args) w := enters_of Tryd.func57 (by kernel_rfl) rfl
    have hH : HoldsK encR 2 w g 0 l.toArray := by
      intro j hj
      rw [flat_pv] at hj ⊢
      have hj' : j < l.length * 2 := by simpa [pv_len] using hj
      have hcell := h.cellAt (g := g) j hj'
      have hpj : j < (pv l).length := by rw [pv_len]; exact hj'
      refine ⟨?_, ?_⟩
      · rw [Nat.zero_add, hcell, List.getElem?_eq_getElem hpj]
        rw [getElem!_pos _ j hj]; simp
      · rw [Nat.zero_add]; exact h.frozenAt j
    have hcon := AnyQ.slices_SortFunc Tryd.sortR 2 Tryd.isAgg61 Tryd.sizeOf61 encR (fun _ => rfl) (fun x v hv => by simp [encR] at hv; rcases hv with rfl | rfl <;> rfl)
      (fun x y => Lib.compareInt x.1 y.1) swoR 57 #[] g 0 c l.toArray w eg (fun _ _ _ _ x y => of1_any x y _) hH hg (by simp; omega)
    rw [show l.toArray.size = l.length by simp] at hcon
    refine Calls.mono hcon ?_
    rintro e w' ⟨he, d', n, os, hp, hs, rfl⟩
    have hsz : d'.size = l.length := by rw [hp.1]; simp
    refine ⟨he, d'.toList, ?_, ?_, ?_, grown_sort _ _ _ _ _ _ _ _⟩
    · have := hp.2.2
      rw [Array.extract_eq_self_of_le (by omega), Array.extract_eq_self_of_le (by simp)] at this
      simpa using this
    · rw [List.pairwise_iff_getElem]
      intro i j hi hj hij
      have := hs i j (by omega) hij (by simpa [hsz] using hj)
      rw [ltR, getElem!_pos d' i (by simpa using hi), getElem!_pos d' j (by simpa using hj)] at this
      simp at this
      simpa using this
    · have hk := (SWK.holds (⟨n, os, rfl⟩ : SWK encR 2 w g 0 d' (sortWorldK encR 2 w g 0 n d' os)) hg hH (by rw [hsz]; simp))
      refine .inr ⟨g, 0, rfl, Nat.lt_of_lt_of_le hg (grown_sort encR 2 w g 0 n d' os).size, fun j u hu => ?_⟩
      have hj : j < (flatK encR 2 d').size := by
        rw [flat_pv]; simpa using (List.getElem?_eq_some_iff.1 hu).1
      have := (hk j hj).1
      rw [this]
      rw [getElem!_pos _ j hj]
      simp only [flat_pv]
      have hj2 := (List.getElem?_eq_some_iff.1 hu).1
      rw [List.getElem?_eq_getElem hj2] at hu
      simpa using hu
end Go.Proofs.YtgjoldjfeobjgaaDoor
