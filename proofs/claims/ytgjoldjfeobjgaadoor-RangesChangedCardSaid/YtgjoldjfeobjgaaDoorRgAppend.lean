/-
  append onto a row of the call's own, from whatever slice reads as a list: nil, empty or not.
-/
import Derived.Test.YtgjoldjfeobjgaaDoorRgWords
namespace Go.Proofs.YtgjoldjfeobjgaaDoor
open Go.RowKit

section
variable {P : Program} {w : World} {base : Nat} {t e : TypeId} {i : TypeInfo} {z : Value} {size bytes : Nat} {v : Value} {n : Nat} {xs : List Value} {B : Nat} {A : Option Addr} {m c : Nat} {news : List Value}

theorem run_append_row (ty : TypeId) (ht : P.underlying t = some (.slice e)) (hi : P.info? e = some i) (hz : i.zero = some z) (hsize : i.size = size) (hby : i.bytes = bytes) (hzs : z.cells.size = size) (hsz : 0 < size)
    (hown : w.ownsRow base e size v n xs) (hr : Row w B A news) (hl : news.length = m * size) (h1 : ∀ u ∈ news, u.oneCell' = true)
    (h63 : n + m ≤ maxLen) (hbytes : (n + m) * bytes ≤ 140737488355328) (hbase : base ≤ w.heap.size) :
    ∃ v' w', (Builtin.append_ #[t, t] ty #[v, .slice A m c]).run P w = .ok v' w' ∧ w'.ownsRow base e size v' (n + m) (xs ++ news) ∧ w.grownBy w' v.ownBlock := by
  cases A with
  | none =>
    have hnews : news = [] := by
      rcases hr with h | ⟨b, o, h, _⟩
      · exact h
      · cases h
    subst hnews
    have hm : m = 0 := by
      rcases Nat.eq_zero_or_pos m with h | h
      · exact h
      · have := Nat.mul_pos h hsz; simp at hl; omega
    subst hm
    refine ⟨v, w, ?_, by simpa using hown, World.grownBy.refl w _⟩
    rcases hown.2 with ⟨rfl, rfl⟩ | ⟨g, cap, cur, rfl, _, _, hnc, _⟩
    · simp [Builtin.append_, run_underlying ht, sizeOf, typeInfo, hi, Builtin.lenOf, Builtin.firstCells]
    · simp [Builtin.append_, run_underlying ht, sizeOf, typeInfo, hi, Builtin.lenOf, Builtin.firstCells, hnc, storeCells]
  | some a =>
    have hcells : ∀ j u, news[j]? = some u → w.cell? (a.add j) = some u := by
      intro j u hu
      rcases hr with rfl | ⟨b, o, h, _, h3⟩
      · simp at hu
      · cases h
        rw [Addr.add_lit]
        exact h3 j u hu
    obtain ⟨v', w', hrun, h2, h3, _⟩ := run_append_own_at (P := P) w base t ty e i z size bytes ht hi hz hsize hby hzs hsz v n xs hown a m c news hl hcells h1 h63 hbytes hbase
    exact ⟨v', w', hrun, h2, h3⟩

theorem wp_append_row {o : Oper} {a : Act} {K : Act → World → Prop} {Q : Exit → Act → World → Prop} (s x : Operand) (ho : o.op = .call { callee := .builtin .append, args := #[s, x], argTypes := #[t, t] })
    (ht : P.underlying t = some (.slice e)) (hi : P.info? e = some i) (hz : i.zero = some z) (hsize : i.size = size) (hby : i.bytes = bytes) (hzs : z.cells.size = size) (hsz : 0 < size)
    (hs : a.eval s = v) (hown : w.ownsRow base e size v n xs) (hx : a.eval x = .slice A m c) (hr : Row w B A news) (hl : news.length = m * size) (h1 : ∀ u ∈ news, u.oneCell' = true)
    (h63 : n + m ≤ maxLen) (hbytes : (n + m) * bytes ≤ 140737488355328) (hbase : base ≤ w.heap.size)
    (h : ∀ v' w', w'.ownsRow base e size v' (n + m) (xs ++ news) → w.grownBy w' v.ownBlock → K (a.put o.dst v') w') : o.wp P a w K Q := by
  obtain ⟨v', w', hrun, h2, h3⟩ := run_append_row (c := c) o.type ht hi hz hsize hby hzs hsz hown hr hl h1 h63 hbytes hbase
  unfold Oper.wp execOp
  simp only [ho, resolve, invoke, builtin, Sem.run_bind, Sem.run_pure, Result.andThen_ok, List.map_toArray, List.map_cons, List.map_nil, hs, hx, hrun]
  exact h v' w' h2 h3
theorem wpList_append_row {ops : Array Oper} {rest : List Oper} {o : Oper} {a : Act} {Q : Exit → Act → World → Prop} (hgd : o.guard = none) (s x : Operand) (ho : o.op = .call { callee := .builtin .append, args := #[s, x], argTypes := #[t, t] })
    (ht : P.underlying t = some (.slice e)) (hi : P.info? e = some i) (hz : i.zero = some z) (hsize : i.size = size) (hby : i.bytes = bytes) (hzs : z.cells.size = size) (hsz : 0 < size)
    (hs : a.eval s = v) (hown : w.ownsRow base e size v n xs) (hx : a.eval x = .slice A m c) (hr : Row w B A news) (hl : news.length = m * size) (h1 : ∀ u ∈ news, u.oneCell' = true)
    (h63 : n + m ≤ maxLen) (hbytes : (n + m) * bytes ≤ 140737488355328) (hbase : base ≤ w.heap.size)
    (h : ∀ v' w', w'.ownsRow base e size v' (n + m) (xs ++ news) → w.grownBy w' v.ownBlock → wpList P ops Q rest (a.put o.dst v') w') : wpList P ops Q (o :: rest) a w :=
  wpList_plain hgd fun _ hK => wp_append_row s x ho ht hi hz hsize hby hzs hsz hs hown hx hr hl h1 h63 hbytes hbase fun v' w' h2 h3 => hK _ _ (h v' w' h2 h3)
theorem step_append_row {ops : Array Oper} {o : Oper} {a : Act} {K : Act → World → Prop} {Q : Exit → Act → World → Prop} {E : Prop} (hgd : o.guard = none) (s x : Operand) (ho : o.op = .call { callee := .builtin .append, args := #[s, x], argTypes := #[t, t] })
    (ht : P.underlying t = some (.slice e)) (hi : P.info? e = some i) (hz : i.zero = some z) (hsize : i.size = size) (hby : i.bytes = bytes) (hzs : z.cells.size = size) (hsz : 0 < size)
    (hs : a.eval s = v) (hown : w.ownsRow base e size v n xs) (hx : a.eval x = .slice A m c) (hr : Row w B A news) (hl : news.length = m * size) (h1 : ∀ u ∈ news, u.oneCell' = true)
    (h63 : n + m ≤ maxLen) (hbytes : (n + m) * bytes ≤ 140737488355328) (hbase : base ≤ w.heap.size)
    (h : ∀ v' w', w'.ownsRow base e size v' (n + m) (xs ++ news) → w.grownBy w' v.ownBlock → K (a.put o.dst v') w') :
    if Region.wanted o (yielded ops a.tmps) = true then Oper.wp P o a w K Q else E := by
  have hw : Region.wanted o (yielded ops a.tmps) = true := by simp [Region.wanted, hgd]
  rw [if_pos hw]
  exact wp_append_row s x ho ht hi hz hsize hby hzs hsz hs hown hx hr hl h1 h63 hbytes hbase h
end
theorem Row.alloc' {w : World} {A : Option Addr} {vs : List Value} (h : Row w w.heap.size A vs) (o : Obj) : Row (w.alloc o) w.heap.size A vs := h.keep fun p hp => World.cell?_alloc_lt w o p hp
theorem Row.alloc2 {w : World} {A : Option Addr} {vs : List Value} {o : Obj} (h : Row w w.heap.size A vs) : Row (w.alloc o) w.heap.size A vs := h.alloc' o
theorem Row.dropAt {w : World} {B b o : Nat} {vs : List Value} (h : Row w B (some ⟨b, o, none⟩) vs) (k : Nat) : Row w B (some ⟨b, o + k, none⟩) (vs.drop k) := by
  rcases h with rfl | ⟨b', o', h1, h2, h3⟩
  · exact .inl (by simp)
  · injection h1 with h1
    injection h1 with h1 h4
    subst h1 h4
    exact .inr ⟨b, o + k, rfl, h2, fun i u hu => by rw [Nat.add_assoc]; exact h3 _ u (by rw [← hu, List.getElem?_drop])⟩
theorem own_mono {w : World} {base base' : Nat} {e : TypeId} {size n : Nat} {v : Value} {xs : List Value} (h : w.ownsRow base e size v n xs) (hb : base' ≤ base) : w.ownsRow base' e size v n xs := by
  refine ⟨h.1, ?_⟩
  rcases h.2 with h' | ⟨g, cap, cur, h1, h2, h3⟩
  · exact .inl h'
  · exact .inr ⟨g, cap, cur, h1, Nat.le_trans hb h2, h3⟩
theorem own_set {w : World} {base : Nat} {e : TypeId} {size n : Nat} {v : Value} {xs : List Value} (h : w.ownsRow base e size v n xs) {B : Nat} (hB : B < base) (u : Value) : (w.setCell ⟨B, 0, none⟩ u).ownsRow base e size v n xs := by
  refine h.kept (grownBy_setCell' w B u) ?_
  cases hv : v.ownBlock with
  | none => exact .inl rfl
  | some g =>
    have := own_ge h g hv
    exact .inr (fun e => by injection e with e; omega)
theorem fresh_ge (W : World) : ∀ g, (Value.slice (some ⟨W.heap.size, 0, none⟩) 0 0).ownBlock = some g → W.heap.size ≤ g := by
  intro g hg
  simp [Value.ownBlock] at hg
  omega
/-- What a row of the call's own reads as. -/
theorem own_row {w : World} {base : Nat} {e : TypeId} {size n : Nat} {A : Option Addr} {c : Nat} {xs : List Value} (h : w.ownsRow base e size (.slice A n c) n xs) (hs : 0 < size) : Row w w.heap.size A xs := by
  by_cases hn : 0 < n
  · obtain ⟨g, cap, hv, _, hlt⟩ := h.form hn
    have hA : A = some ⟨g, 0, none⟩ := by injection hv
    subst hA
    refine .inr ⟨g, 0, rfl, hlt, fun j u hu => ?_⟩
    have := h.cells (g := g) rfl j u hu
    simpa [Addr.add_lit] using this
  · have : xs.length = n * size := h.1
    obtain rfl : n = 0 := by omega
    exact .inl (List.eq_nil_of_length_eq_zero (by omega))
theorem own_form {w : World} {base : Nat} {e : TypeId} {size n : Nat} {v : Value} {xs : List Value} (h : w.ownsRow base e size v n xs) : ∃ A c, v = .slice A n c ∧ n ≤ c := by
  rcases h.2 with ⟨rfl, rfl⟩ | ⟨g, cap, cur, rfl, _, _, hnc, _⟩
  · exact ⟨none, 0, rfl, Nat.le_refl _⟩
  · exact ⟨_, cap, rfl, hnc⟩
/-- Two cells in a new block. -/
theorem row_two (W : World) (x y : Int) (T : TypeId) : Row (W.alloc (.cells #[.int .i64 x, .int .i64 y] T)) (W.heap.size + 1) (some ⟨W.heap.size, 0, none⟩) (pv [(x, y)]) := by
  refine .inr ⟨W.heap.size, 0, rfl, by omega, fun j u hu => ?_⟩
  have h := World.alloc_heap_new W (.cells #[.int .i64 x, .int .i64 y] T)
  have : j < 2 := by have := (List.getElem?_eq_some_iff.1 hu).1; simpa [pv] using this
  rcases (show j = 0 ∨ j = 1 by omega) with rfl | rfl
  · simp [pv] at hu; subst hu; simp only [World.cell?, h]; rfl
  · simp [pv] at hu; subst hu; simp only [World.cell?, h]; rfl
theorem infoRange : (Tryd.prog.info? 61).map (fun i => (i.zero, i.size, i.bytes)) = some (some (.agg #[.int .i64 0, .int .i64 0]), 2, 16) := by kernel_rfl
theorem infoG : (Tryd.prog.info? 66).map (fun i => (i.zero, i.size, i.bytes)) = some (some (.agg #[.int .i64 0, .int .i64 0]), 2, 16) := by kernel_rfl
theorem infoInt : (Tryd.prog.info? 3).map (fun i => (i.zero, i.size, i.bytes)) = some (some (.int .i64 0), 1, 8) := by kernel_rfl

/-! ### slices.Clone -/
set_option maxHeartbeats 400000 in
theorem clone_any (l : List G.Rg) (hn : l.length ≤ 100000) (A : Option Addr) (c : Nat) (w : World) (hr : Row w w.heap.size A (pv l)) :
    Calls Tryd.prog 55 #[.slice A l.length c] w fun e w' => ∃ v, e = .returned v ∧ w'.ownsRow w.heap.size 61 2 v l.length (pv l) ∧ Below w.heap.size w w' := by
  obtain ⟨i0, hi, hz0, hz1, hz2⟩ := info_parts infoRange
  have hnil := fun (w : World) (a : Option Addr) (n c : Nat) => Lib.run_eql_slice_nil (P := Tryd.prog) w 23 61 a n c 0 0 Tryd.underlying23
  cases A with
  | none =>
    have hl : l = [] := by
      rcases hr with h | ⟨b, o, h, _⟩
      · have := congrArg List.length h; rw [pv_len] at this; exact List.eq_nil_of_length_eq_zero (by simp at this; omega)
      · cases h
    subst hl
    go_enter Tryd.func55, Tryd.ntmps55
    go_wp2_with fail
    go_ret
    exact ⟨_, rfl, World.ownsRow_nil _ _ _ _, Below.refl _ _⟩
  | some a =>
    have HR := Lib.hid hr
    clear hr
    go_enter Tryd.func55, Tryd.ntmps55
    go_wp2_with (at_builtin; (refine wpList_append_row (base := w.heap.size) (v := .slice (some ⟨w.heap.size, 0, none⟩) 0 0) (n := 0) (xs := []) rfl _ _ rfl Tryd.underlying23 hi hz0 hz1 hz2 rfl (by decide) rfl (World.ownsRow_lit w #[] 0 (Nat.le_refl _) (by simp [maxLen]) rfl) rfl (HR.out.alloc' _) (pv_len l) (pv_one l) (by simp only [maxLen]; omega) (by omega) (by simp) ?_); intro v' w1 hown hgrow)
    go_ret
    exact ⟨_, rfl, by simpa using hown, ((Below.refl w.heap.size w).alloc (Nat.le_refl _) _).grown hgrow (by simp) (by intro g hg; simp [Value.ownBlock] at hg; omega)⟩
end Go.Proofs.YtgjoldjfeobjgaaDoor
