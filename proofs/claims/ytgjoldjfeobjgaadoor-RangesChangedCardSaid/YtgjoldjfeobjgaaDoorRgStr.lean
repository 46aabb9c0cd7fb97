/-
  The environment of library variables; Itoa; ranges.Set.Text.
-/
import Derived.Test.YtgjoldjfeobjgaaDoorRgMerge
import Derived.Test.YtgjoldjfeobjgaaDoorRgText
import Derived.Test.YtgjoldjfeobjgaaDoorShelf
import Derived.Lib.LaidTab
import Derived.Lib.Join
import Derived.Sort.Grow
import Derived.Deep.RegionHeld3
namespace Go.Proofs.YtgjoldjfeobjgaaDoor
open Go.RowKit Go.Shelf

/-- What the calls ask of the library's variables. -/
structure Env (w : World) : Prop where
  tab : Lib.TabIs Tryd.prog w "internal/strconv.uint64pow10" .u64 Lib.pow10Tab
  max : ∃ m, w.cell? ⟨2, 0, none⟩ = some (.int .i64 m)
  size : 4 ≤ w.heap.size
theorem tabG : Tryd.prog.globalNamed "internal/strconv.uint64pow10" = some 3 := by kernel_rfl
theorem Env.below {w w' : World} (h : Env w) (hb : Below w.heap.size w w') : Env w' :=
  ⟨var?_below hb tabG (by have := h.size; show 3 < _; omega) h.tab, by
    obtain ⟨m, hm⟩ := h.max
    exact ⟨m, (hb.cell (p := ⟨2, 0, none⟩) (by have := h.size; show 2 < _; omega)).trans hm⟩, Nat.le_trans h.size hb.size⟩
theorem below_grow {w : World} (k : Nat) (os : Array Obj) : Below w.heap.size w (Go.Sort.grow (w.drewN k) os) :=
  ⟨rfl, rfl, rfl, by simp [Go.Sort.grow, World.drewN], fun i hi => by
    show (w.heap ++ os)[i]? = _
    rw [Array.getElem?_append_left hi]⟩
theorem itoa_any (x : Int) (h0 : 0 ≤ x) (h1 : x ≤ 9223372036854775807) (w : World) (he : Env w) :
    Calls Tryd.prog 53 #[.int .i64 x] w fun e w' => e = .returned (.string (bs (Lib.decDigits x.toNat))) ∧ Below w.heap.size w w' := by
  refine (Tryd.strconv_Itoa x (by omega) h1 w he.tab).mono ?_
  rintro e w' ⟨rfl, k, os, rfl⟩
  refine ⟨?_, below_grow k os⟩
  rw [show Lib.itoa x = Lib.decDigits x.toNat by unfold Lib.itoa; rw [if_neg (by omega)]]
  rfl

def sv (l : List (List UInt8)) : List Value := l.map fun s => .string (bs s)
theorem sv_len (l : List (List UInt8)) : (sv l).length = l.length := by simp [sv]
theorem sv_append (a b : List (List UInt8)) : sv (a ++ b) = sv a ++ sv b := by simp [sv]
theorem sv_one (l : List (List UInt8)) : ∀ u ∈ sv l, u.oneCell' = true := by
  intro u hu
  obtain ⟨x, _, rfl⟩ := List.mem_map.1 hu
  rfl
theorem row_str (W : World) (x : List UInt8) (T : TypeId) : Row (W.alloc (.cells #[.string (bs x)] T)) (W.heap.size + 1) (some ⟨W.heap.size, 0, none⟩) (sv [x]) := by
  refine .inr ⟨W.heap.size, 0, rfl, by omega, fun j u hu => ?_⟩
  have h := World.alloc_heap_new W (.cells #[.string (bs x)] T)
  have : j < 1 := by have := (List.getElem?_eq_some_iff.1 hu).1; simpa [sv] using this
  obtain rfl : j = 0 := by omega
  simp [sv] at hu; subst hu; simp only [World.cell?, h]; rfl
theorem row_one' (W : World) (u : Value) (T : TypeId) : Row (W.alloc (.cells #[u] T)) (W.heap.size + 1) (some ⟨W.heap.size, 0, none⟩) [u] := by
  refine .inr ⟨W.heap.size, 0, rfl, by omega, fun j v hv => ?_⟩
  have h := World.alloc_heap_new W (.cells #[u] T)
  have : j < 1 := by have := (List.getElem?_eq_some_iff.1 hv).1; simpa using this
  obtain rfl : j = 0 := by omega
  simp at hv; subst hv; simp only [World.cell?, h]; rfl
theorem infoStr : (Tryd.prog.info? 9).map (fun i => (i.zero, i.size, i.bytes)) = some (some (.string ⟨#[]⟩), 1, 16) := by kernel_rfl
theorem join_eq : ∀ (l : List (List UInt8)), Lib.join l [32] = G.join32 l
  | [] => rfl
  | [a] => by rw [Lib.join_one]; rfl
  | a :: b :: l => by
    have ih := join_eq (b :: l)
    rw [G.join32_cons a (by simp), ← ih, Lib.join_cons, Lib.join_cons]
    simp [Lib.joinTail]
namespace G
theorem item_len {r : Rg} (h : 0 ≤ r.1 ∧ r.1 < r.2 ∧ r.2 ≤ 1099511627776) : (itemT r).length ≤ 27 := by
  have h1 := decDigits_len 12 r.1.toNat (by omega)
  have h2 := decDigits_len 12 (r.2 - r.1).toNat (by omega)
  simp [itemT]; omega
theorem join32_len : ∀ (l : List (List UInt8)) (m : Nat), (∀ a ∈ l, a.length ≤ m) → (join32 l).length ≤ (m + 1) * l.length
  | [], m, _ => by simp [join32]
  | [a], m, h => by have := h a (by simp); simp [join32]; omega
  | a :: b :: l, m, h => by
    have ih := join32_len (b :: l) m (fun x hx => h x (List.mem_cons_of_mem _ hx))
    have h1 := h a (by simp)
    rw [join32_cons a (by simp)]
    simp only [List.length_append, List.length_cons] at ih ⊢
    rw [Nat.mul_add (m + 1) (l.length + 1) 1]
    omega
theorem Set_.items {l : List Rg} (h : Set_ l) : ∀ a ∈ l.map itemT, a.length ≤ 27 := by
  intro a ha
  obtain ⟨r, hr, rfl⟩ := List.mem_map.1 ha
  obtain ⟨j, hj, rfl⟩ := List.getElem_of_mem hr
  exact item_len (h.at_ hj)
theorem text_len {l : List Rg} (h : Set_ l) : (textR l).length ≤ 28 * l.length := by
  have := join32_len (l.map itemT) 27 h.items
  rwa [List.length_map] at this
end G

set_option maxRecDepth 100000 in
set_option maxHeartbeats 4000000 in
theorem text_any (l : List G.Rg) (hs : G.Set_ l) (hn : l.length ≤ 5000) (A : Option Addr) (c : Nat) (w : World) (hr : Row w w.heap.size A (pv l)) (he : Env w) :
    Calls Tryd.prog 30 #[.agg #[.slice A l.length c]] w fun e w' => e = .returned (.string (bs (G.textR l))) ∧ Below w.heap.size w w' := by
  obtain ⟨i0, hi, hz0, hz1, hz2⟩ := info_parts infoStr
  go_enter Tryd.func30, Tryd.ntmps30
  go_wp2_with (at_make; refine wpList_make_own _ rfl _ _ 85 rfl w.heap.size 9 i0 (.string ⟨#[]⟩) 1 Tryd.underlying85 hi hz0 hz1 _ _ _ l.length rfl rfl rfl (by rw [hz2]; omega) (by simp only [maxLen]; omega) (by simp) ?_; intro w1 hown1 hgrow1; have hb1 : Below w.heap.size w w1 := ((Below.refl w.heap.size w).alloc (Nat.le_refl _) _).grown hgrow1 (by simp) (by intro g hg; cases hg); have hbx1 : Boxed w1 w.heap.size 25 (.slice A l.length c) := (((Below.refl (w.heap.size + 1) _).grown hgrow1 (by simp) (by intro g hg; cases hg)).block _ (by omega)).trans (Boxed.new _ _ _); have hcb := hbx1.cell; have hlb := hbx1.lt)
  clear hcb hlb hbx1
  go_loopw [3, 13] (fun v i wr => ∃ (k : Nat) (Ao : Option Addr) (co : Nat), k ≤ l.length ∧ i = .int .i64 (k : Int) ∧ v = .slice Ao k co ∧ k ≤ co ∧ wr.ownsRow w.heap.size 9 1 (.slice Ao k co) k (sv ((l.map G.itemT).take k)) ∧ Below w.heap.size w wr) (fun _ i _ => l.length - (intOf i).toNat)
  case atStart => exact ⟨0, _, _, by omega, rfl, rfl, by omega, by simpa [sv] using hown1, hb1⟩
  case round =>
    obtain ⟨k, Ao, co, hk, rfl, rfl, hco, hown, hb⟩ := hrel
    by_cases hlt : k < l.length
    · obtain ⟨b, o, rfl, hbB, c1, c2⟩ := hr.pair hlt
      have c1 := (hb.cell (p := ⟨b, o + k * 2, none⟩) hbB).trans c1
      have c2 := (hb.cell (p := ⟨b, o + k * 2 + 1, none⟩) hbB).trans c2
      have hat := hs.at_ hlt
      have HT : Hid (sv ((l.map G.itemT).take (k + 1)) = sv ((l.map G.itemT).take k) ++ sv [G.itemT (l[k].1, l[k].2)]) := by
        show _ = _
        rw [List.take_succ_eq_append_getElem (by simpa using hlt), sv_append]; simp
      generalize l[k].1 = x at c1 hat HT
      generalize l[k].2 = y at c2 hat HT
      obtain ⟨a1, a2, a3⟩ := hat
      have HX : Hid (∀ W, Below w.heap.size w W → Calls Tryd.prog 53 #[.int .i64 x] W fun e w' => e = .returned (.string (bs (Lib.decDigits x.toNat))) ∧ Below W.heap.size W w') := fun W h => itoa_any x a1 (by omega) W (he.below h)
      have HY : Hid (∀ W, Below w.heap.size w W → Calls Tryd.prog 53 #[.int .i64 (y - x)] W fun e w' => e = .returned (.string (bs (Lib.decDigits (y - x).toNat))) ∧ Below W.heap.size W w') := fun W h => itoa_any (y - x) (by omega) (by omega) W (he.below h)
      have HE : Hid (bs (Lib.decDigits x.toNat) ++ ⟨#[43]⟩ ++ bs (Lib.decDigits (y - x).toNat) = bs (G.itemT (x, y))) := by
        show _ = _
        rw [show (⟨#[43]⟩ : ByteArray) = bs [43] from rfl, bs_app, bs_app]; simp [G.itemT]
      have s1 : (bs (Lib.decDigits x.toNat)).size ≤ 20 := by rw [bs_size]; have := decDigits_len 12 x.toNat (by omega); omega
      have s2 : (bs (Lib.decDigits (y - x).toNat)).size ≤ 20 := by rw [bs_size]; have := decDigits_len 12 (y - x).toNat (by omega); omega
      generalize bs (Lib.decDigits x.toNat) = t1 at HX HE s1
      generalize bs (Lib.decDigits (y - x).toNat) = t2 at HY HE s2
      have hq1 : ¬ (9223372036854775807 < t1.size + (⟨#[43]⟩ : ByteArray).size) := by
        show ¬ (9223372036854775807 < t1.size + 1)
        omega
      have hq2 : ¬ (9223372036854775807 < t1.size + 1) := hq1
      have hq3 : t1.size + 1 ≤ 9223372036854775807 := by omega
      have hq4 : ¬ (9223372036854775807 < (t1 ++ ⟨#[43]⟩ : ByteArray).size + t2.size) := by
        rw [ByteArray.size_append]
        show ¬ (9223372036854775807 < t1.size + 1 + t2.size)
        omega
      have hq5 : ¬ (9223372036854775807 < t1.size + 1 + t2.size) := by omega
      have hq6 : t1.size + 1 + t2.size ≤ 9223372036854775807 := by omega
      have hw1 : IntKind.i64.wrap (y - x) = y - x := by rw [IntKind.wrap_i64]; omega
      have HS1 : Hid (∀ W W' : World, (W.cell? ⟨wr.heap.size, 0, none⟩ = some (.int .i64 x) ∧ W.cell? ⟨wr.heap.size, 1, none⟩ = some (.int .i64 y) ∧ Below w.heap.size w W ∧ wr.heap.size < W.heap.size ∧ W.ownsRow w.heap.size 9 1 (.slice Ao k co) k (sv ((l.map G.itemT).take k))) → Below W.heap.size W W' → (W'.cell? ⟨wr.heap.size, 0, none⟩ = some (.int .i64 x) ∧ W'.cell? ⟨wr.heap.size, 1, none⟩ = some (.int .i64 y) ∧ Below w.heap.size w W' ∧ wr.heap.size < W'.heap.size ∧ W'.ownsRow w.heap.size 9 1 (.slice Ao k co) k (sv ((l.map G.itemT).take k)))) := by
        rintro W W' ⟨h1, h2, h3, h4, h5⟩ hb'
        exact ⟨(hb'.cell (p := ⟨wr.heap.size, 0, none⟩) h4).trans h1, (hb'.cell (p := ⟨wr.heap.size, 1, none⟩) h4).trans h2, h3.trans (hb'.mono h3.size), Nat.lt_of_lt_of_le h4 hb'.size, own_below h5 hb'⟩
      have hnew := World.alloc_heap_new wr (.cells #[.int .i64 x, .int .i64 y] 61)
      have k1 : (wr.alloc (.cells #[.int .i64 x, .int .i64 y] 61)).cell? ⟨wr.heap.size, 0, none⟩ = some (.int .i64 x) := by simp only [World.cell?, hnew]; rfl
      have k2 : (wr.alloc (.cells #[.int .i64 x, .int .i64 y] 61)).cell? ⟨wr.heap.size, 1, none⟩ = some (.int .i64 y) := by simp only [World.cell?, hnew]; rfl
      have bw := hb.alloc hb.size (.cells #[.int .i64 x, .int .i64 y] 61)
      have ow := hown.alloc (.cells #[.int .i64 x, .int .i64 y] 61)
      have sw : wr.heap.size < (wr.alloc (.cells #[.int .i64 x, .int .i64 y] 61)).heap.size := by simp
      have HOG : Hid (∀ g, (Value.slice Ao k co).ownBlock = some g → g ≠ wr.heap.size) := by
        exact fun g hg => by have := (hown.lt g hg).2; omega
      clear hnew
      go_wp2_with fail
      generalize wr.alloc _ = W1 at k1 k2 bw ow sw ⊢
      clear c1 c2
      go_region_held3 (fun W => W.cell? ⟨wr.heap.size, 0, none⟩ = some (.int .i64 x) ∧ W.cell? ⟨wr.heap.size, 1, none⟩ = some (.int .i64 y) ∧ Below w.heap.size w W ∧ wr.heap.size < W.heap.size)
        (first | (refine ⟨?_, ?_, ?_, ?_⟩ <;> assumption) | (refine ⟨?_, ?_, ?_, ?_⟩ <;> first | assumption | (apply Below.drew; assumption) | (rw [World.cell?_drew]; assumption)) | (refine ⟨?_, ?_, ?_, ?_⟩ <;> first | assumption | (rw [World.cell?_alloc_lt _ _ _ (by assumption)]; assumption) | exact Below.alloc (by assumption) (Below.size (by assumption)) _ | (simp; omega)))
        (first
        | (go_at_call 53; refine (HX.out _ (by first | assumption | (apply Below.drew; assumption))).mono ?_; rintro e wa ⟨rfl, ba⟩; obtain ⟨k1a, k2a, bwa, swa, owa⟩ := HS1.out _ _ (by refine ⟨?_, ?_, ?_, ?_, ?_⟩ <;> first | assumption | (apply Below.drew; assumption) | (rw [World.cell?_drew]; assumption) | (apply World.ownsRow.drew; assumption)) ba; clear ba)
        | (go_at_call 53; refine (HY.out _ (by first | assumption | (apply Below.drew; assumption))).mono ?_; rintro e wa ⟨rfl, ba⟩; obtain ⟨k1a, k2a, bwa, swa, owa⟩ := HS1.out _ _ (by refine ⟨?_, ?_, ?_, ?_, ?_⟩ <;> first | assumption | (apply Below.drew; assumption) | (rw [World.cell?_drew]; assumption) | (apply World.ownsRow.drew; assumption)) ba; clear ba)
        | (refine step_append_row rfl (.tmp 17) (.tmp 29) rfl Tryd.underlying85 hi hz0 hz1 hz2 rfl (by decide) rfl (World.ownsRow.alloc (by assumption) _) rfl (row_one' _ (.string (t1 ++ ⟨#[43]⟩ ++ t2)) _) (by rfl) (by intro u hu; obtain rfl := List.mem_singleton.1 hu; rfl) (by simp only [maxLen]; omega) (by omega) (by have := hb.size; simp; omega) ?_; intro v3 w3 own3 grow3; obtain ⟨A3, q3, rfl, hq3⟩ := own_form own3; replace grow3 : World.grownBy _ w3 (Value.slice Ao k co).ownBlock := grow3; have bw3 := (Below.alloc bwa bwa.size _).grown grow3 (by have := hb.size; simp; omega) (own_ge owa); have k13 := (grow3.cell_far ⟨wr.heap.size, 0, none⟩ (by simp; omega) (fun e => HOG.out _ e.symm rfl)).trans ((World.cell?_alloc_lt _ _ ⟨wr.heap.size, 0, none⟩ swa).trans k1a); have k23 := (grow3.cell_far ⟨wr.heap.size, 1, none⟩ (by simp; omega) (fun e => HOG.out _ e.symm rfl)).trans ((World.cell?_alloc_lt _ _ ⟨wr.heap.size, 1, none⟩ swa).trans k2a); have sw3 : wr.heap.size < w3.heap.size := Nat.lt_of_lt_of_le swa (Nat.le_trans (by simp) grow3.size)))
      all_goals
        go_wp2_with fail
        go_roundw
        case rel => exact ⟨k + 1, A3, q3, by omega, by go_num, rfl, hq3, by rw [HT.out, show sv [G.itemT (x, y)] = [.string (t1 ++ ⟨#[43]⟩ ++ t2)] by rw [HE.out]; rfl]; exact own3, bw3⟩
        case measure => simp [intOf]; omega
    · obtain rfl : k = l.length := by omega
      have e : (l.map G.itemT).take l.length = l.map G.itemT := List.take_of_length_le (by simp)
      rw [e] at hown
      clear e
      have HJ : Hid (∀ W, Below wr.heap.size wr W → Calls Tryd.prog 54 #[.slice Ao l.length co, .string ⟨#[32]⟩] W fun e w' => e = .returned (.string (bs (G.textR l))) ∧ Below W.heap.size W w') := by
        intro W hW
        rcases Nat.eq_zero_or_pos l.length with h0 | h0
        · obtain rfl := List.eq_nil_of_length_eq_zero h0
          refine (Tryd.strings_Join_none Ao co ⟨#[32]⟩ W).mono ?_
          rintro e w' ⟨rfl, rfl⟩
          exact ⟨rfl, Below.refl _ _⟩
        · obtain ⟨g, cap, hv, hbg, hgl⟩ := hown.form h0
          have hA : Ao = some ⟨g, 0, none⟩ := by injection hv
          subst hA
          have hrow : Row W W.heap.size (some ⟨g, 0, none⟩) (sv (l.map G.itemT)) := (Row.of_own hown).below hW |>.more hW.size
          have hlen : ((l.map G.itemT).map bs).length = l.length := by simp
          have := Tryd.strings_Join g 0 co ((l.map G.itemT).map bs) ⟨#[32]⟩ W (by
            intro j x hj
            rcases hrow with h | ⟨b', o', h1, h2, h3⟩
            · have h' := congrArg List.length h; rw [sv_len, List.length_map, List.length_nil] at h'; omega
            · injection h1 with h1; injection h1 with h1 h4; subst h1 h4
              exact h3 j _ (by rw [List.getElem?_map] at hj; rw [sv, List.getElem?_map]; cases hq : (l.map G.itemT)[j]? with
                | none => rw [hq] at hj; cases hj
                | some q => rw [hq] at hj; cases hj; rfl)) (Nat.lt_of_lt_of_le hgl hW.size) (by rw [hlen]; omega) (by rw [hlen]; exact hco) (by
            rw [List.map_map, show ((fun x : ByteArray => x.data.toList) ∘ bs) = id from funext fun x => bs_data x, List.map_id]
            show (Lib.join _ [32]).length ≤ _
            rw [join_eq]
            have := G.text_len hs
            exact Nat.le_trans this (by omega))
          rw [hlen] at this
          refine this.mono ?_
          rintro e w' ⟨rfl, hb'⟩
          refine ⟨?_, hb'⟩
          rw [List.map_map, show ((fun x : ByteArray => x.data.toList) ∘ bs) = id from funext fun x => bs_data x, List.map_id]
          show Ending.returned (.string ⟨(Lib.join _ [32]).toArray⟩) = _
          rw [join_eq]
          rfl
      go_wp2_with (go_at_call 54; refine (HJ.out _ (Below.refl _ _)).mono ?_; rintro e w2 ⟨rfl, hb2⟩)
      go_ret
      exact ⟨rfl, hb.trans (hb2.mono hb.size)⟩
end Go.Proofs.YtgjoldjfeobjgaaDoor
