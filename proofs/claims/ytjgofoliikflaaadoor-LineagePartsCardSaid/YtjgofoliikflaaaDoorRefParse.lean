/-
  The reference's Parse.
-/
import Derived.Test.YtjgofoliikflaaaDoorFirst
import Derived.Test.YtjgofoliikflaaaDoorRefSpec
import Derived.Test.YtjgofoliikflaaaDoorText
import Derived.Maps.AppendAt
import Derived.RangeFuncBox
namespace Go.Proofs.YtjgofoliikflaaaDoor
open Go.RowKit

theorem infoInt : (Tryd.prog.info? 3).map (fun i => (i.zero, i.size, i.bytes)) = some (some (.int .i64 0), 1, 8) := by kernel_rfl

/-- What the reference's Parse returns. -/
def RefPost (s : ByteArray) (w : World) (e : Ending) (w' : World) : Prop :=
  ((∃ A c, L.bad s.data.toList = none ∧ e = .returned (.tuple #[.slice A (L.ords s.data.toList).length c, .int .i64 0, .int .i64 0]) ∧ Row w' w'.heap.size A (nums (L.ords s.data.toList)) ∧ (L.ords s.data.toList).length ≤ c) ∨
   (∃ x, L.bad s.data.toList = some x ∧ e = .returned (.tuple #[.slice none 0 0, .int .i64 (x.at_ : Int), .int .i64 (x.e : Int)]))) ∧ Below w.heap.size w w'
theorem RefPost.bad {s : ByteArray} {w w' : World} {a E : Nat} (h : L.bad s.data.toList = some ⟨0, a, E⟩) (hb : Below w.heap.size w w') : RefPost s w (.returned (.tuple #[.slice none 0 0, .int .i64 (a : Int), .int .i64 (E : Int)])) w' :=
  ⟨.inr ⟨_, h, rfl⟩, hb⟩
theorem RefPost.ok {s : ByteArray} {w w' : World} {A : Option Addr} {n c : Nat} {xs : List Nat} (h : L.bad s.data.toList = none) (ho : L.ords s.data.toList = xs) (hn : xs.length = n) (hr : Row w' w'.heap.size A (nums xs)) (hc : n ≤ c) (hb : Below w.heap.size w w') :
    RefPost s w (.returned (.tuple #[.slice A n c, .int .i64 0, .int .i64 0])) w' :=
  ⟨.inl ⟨A, c, h, by rw [ho, hn], by rw [ho]; exact hr, by rw [ho, hn]; exact hc⟩, hb⟩

theorem nums_snoc (l : List Nat) (n : Nat) : nums (l ++ [n]) = nums l ++ [.int .i64 (n : Int)] := by simp [nums]

theorem nums_append (l m : List Nat) : nums (l ++ m) = nums l ++ nums m := by simp [nums]

set_option maxRecDepth 100000 in
set_option maxHeartbeats 4000000 in
theorem refparse_any (s : ByteArray) (hs : s.size ≤ 4611686018427387904) (w : World) :
    Calls Tryd.prog 19 #[.string s] w (RefPost s w) := by
  obtain ⟨i0, hi, hz0, hz1, hz2⟩ := info_parts infoInt
  by_cases hem : s.data.toList = []
  · have hem2 : s.toList = [] := (Lib.toList_data s).trans hem
    have hp : L.parts s.data.toList = [] := by rw [L.parts, if_pos hem]
    have hfin : RefPost s w (.returned (.tuple #[.slice none 0 0, .int .i64 0, .int .i64 0])) w :=
      RefPost.ok (xs := []) (L.bad_none (by rw [hp]; simp)) (by rw [L.ords, hp]; rfl) rfl (Row.nil _ _ _) (Nat.le_refl _) (Below.refl _ _)
    have HF := Lib.hid hfin
    clear hfin hp hem
    go_enter Tryd.func19, Tryd.ntmps19
    go_wp2_with fail
    go_ret3
    exact HF.out
  · have hem2 : s.toList.isEmpty = false := by
      rw [Lib.toList_data]
      cases h : s.data.toList with
      | nil => exact absurd h hem
      | cons _ _ => rfl
    go_enter Tryd.func19, Tryd.ntmps19
    go_wp2_with fail
    go_loopw [5, 6] (fun v p wr => ∃ (pre : List L.Part) (A : Option Addr) (a cnt c : Nat), v = .slice A cnt c ∧ p = .int .i64 (a : Int) ∧ wr.ownsRow w.heap.size 3 1 (.slice A cnt c) cnt (nums (pre.map (·.ord))) ∧ pre.length = cnt ∧ a ≤ s.size ∧ cnt ≤ 8 ∧
        L.parts s.data.toList = pre ++ L.partsFrom s.data.toList (9 - cnt) a cnt ∧ (∀ y ∈ pre, y.e = 0) ∧ Below w.heap.size w wr)
      (fun _ p _ => s.size + 1 - (intOf p).toNat)
    case atStart => exact ⟨[], none, 0, 0, 0, rfl, rfl, World.ownsRow_nil _ _ _ _, rfl, by omega, by omega, by rw [L.parts, if_neg hem]; rfl, by simp, Below.refl _ _⟩
    case round =>
      obtain ⟨pre, A, a, cnt, c, rfl, rfl, hown, hlen, ha, hc, hp, h0, hb⟩ := hrel
      have Hlen := Lib.hid hlen
      have Hp := Lib.hid hp
      have H0 := Lib.hid h0
      clear hlen hp h0 hem
      by_cases c8 : cnt = 8
      · have hfin := RefPost.bad (w := w) (w' := wr) (L.bad_of hc Hp.out H0.out (L.fE9 c8) (by decide)) hb
        have HF := Lib.hid hfin
        have t1 : ((cnt : Int) == 8) = true := beq_iff_eq.2 (by omega)
        clear hfin c8
        go_wp2_with fail
        go_ret3
        exact HF.out
      have t1 : ((cnt : Int) == 8) = false := beq_eq_false_iff_ne.2 (by omega)
      have C8 := Lib.hid c8
      clear c8
      by_cases c4 : a = s.size
      · have hfin := RefPost.bad (w := w) (w' := wr) (L.bad_of hc Hp.out H0.out (L.fE4 C8.out (by simpa using c4)) (by decide)) hb
        have HF := Lib.hid hfin
        have t2 : ((a : Int) == (s.size : Int)) = true := beq_iff_eq.2 (by omega)
        clear hfin c4
        go_wp2_with fail
        go_ret3
        exact HF.out
      have t2 : ((a : Int) == (s.size : Int)) = false := beq_eq_false_iff_ne.2 (by omega)
      have hlt : a < s.size := by omega
      have C4 : Hid (¬ a = s.data.toList.length) := by
        show ¬ _
        simpa using c4
      clear c4
      by_cases c6 : L.dc 7 (s.data.toList.drop a) = 0
      · have hfin := RefPost.bad (w := w) (w' := wr) (L.bad_of hc Hp.out H0.out (L.fE6 C8.out C4.out c6) (by decide)) hb
        have HF := Lib.hid hfin
        have hd : L.dig s[a] = false := by
          have h1 := L.dc_end 7 (s.data.toList.drop a) (by omega) (by rw [c6, len_drop]; omega)
          rw [get_drop] at h1
          simpa [c6] using h1
        have hd2 : ¬ (48 ≤ s[a].toNat ∧ s[a].toNat ≤ 57) := by
          intro h; simp [L.dig, h] at hd
        clear hfin c6 hd
        by_cases hlo : s[a].toNat < 48
        · go_wp2_with fail
          go_ret3
          exact HF.out
        · have hhi : 57 < s[a].toNat := by omega
          clear hd2
          go_wp2_with fail
          go_ret3
          exact HF.out
      have hd : 48 ≤ s[a].toNat ∧ s[a].toNat ≤ 57 := by
        obtain ⟨h1, h2⟩ := L.dc_lt 7 (s.data.toList.drop a) 0 (by omega)
        rw [get_drop h1] at h2
        exact L.dig_bd (by simpa using h2)
      obtain ⟨hd1, hd2⟩ := hd
      have C6 := Lib.hid c6
      clear c6
      by_cases c3 : s[a] = 48
      · have hfin := RefPost.bad (w := w) (w' := wr) (L.bad_of hc Hp.out H0.out (L.fE3 C8.out C4.out C6.out (by rw [at_toList hlt, c3])) (by decide)) hb
        have HF := Lib.hid hfin
        have t3 : ((s[a].toNat : Int) == 48) = true := by rw [c3]; rfl
        clear hfin c3
        go_wp2_with fail
        go_ret3
        exact HF.out
      have t3 : ((s[a].toNat : Int) == 48) = false := beq_eq_false_iff_ne.2 (fun h => c3 (UInt8.toNat_inj.1 (by show s[a].toNat = 48; omega)))
      have C3 : Hid (¬ s.data.toList[a]? = some 48) := by
        show ¬ _
        rw [at_toList hlt]; intro h; exact c3 (Option.some.inj h)
      clear c3
      go_wp2_with fail
      go_loop [7, 8] (fun n t => ∃ k : Nat, a + k ≤ s.size ∧ k ≤ L.dc 7 (s.data.toList.drop a) ∧ t = .int .i64 ((a + k : Nat) : Int) ∧ n = .int .i64 (L.val ((s.data.toList.drop a).take k) : Int)) (fun _ t => s.size - (intOf t).toNat)
      case atStart => exact ⟨0, by omega, by omega, rfl, rfl⟩
      case round =>
        obtain ⟨k, hk1, hk2, rfl, rfl⟩ := hrel
        have hk3 := L.dc_le 7 (s.data.toList.drop a)
        have hv := L.val_bd7 _ k hk2
        by_cases hg : k < L.dc 7 (s.data.toList.drop a)
        · have hltk : a + k < s.size := by have := L.dc_len 7 (s.data.toList.drop a); rw [len_drop] at this; omega
          have hdk : 48 ≤ s[a + k].toNat ∧ s[a + k].toNat ≤ 57 := by
            obtain ⟨h1, h2⟩ := L.dc_lt _ _ _ hg
            rw [get_drop h1] at h2
            exact L.dig_bd h2
          obtain ⟨hdk1, hdk2⟩ := hdk
          have Hv : Hid (L.val ((s.data.toList.drop a).take (k + 1)) = L.val ((s.data.toList.drop a).take k) * 10 + (s[a + k].toNat - 48)) := by
            obtain ⟨h1, h2⟩ := L.dc_lt _ _ _ hg
            rw [← get_drop h1]; exact L.val_take_succ _ _ h1
          have hk6 : k ≤ 6 := by omega
          go_wp2_with fail
          go_round
          case rel => exact ⟨k + 1, by omega, by omega, by go_num, by rw [Hv.out]; congr 1; omega⟩
          case measure => simp [intOf]; omega
        · have hkd : k = L.dc 7 (s.data.toList.drop a) := by omega
          have Hk := Lib.hid hkd
          have hx : k = 7 ∨ (k < 7 ∧ a + k = s.size) ∨ (k < 7 ∧ ∃ h : a + k < s.size, L.dig s[a + k] = false) := by
            by_cases h1 : L.dc 7 (s.data.toList.drop a) < 7
            · by_cases h2 : a + k < s.size
              · refine .inr (.inr ⟨by omega, h2, ?_⟩)
                have h3 := L.dc_end _ _ h1 (by rw [len_drop]; omega)
                rw [get_drop] at h3
                simpa [← hkd] using h3
              · exact .inr (.inl ⟨by omega, by omega⟩)
            · exact .inl (by omega)
          clear hkd hg
          have hx' := Lib.hid hx
          clear hx
          rcases hx'.out with h7 | ⟨hk7, hend⟩ | ⟨hk7, hltk, hdk⟩
          · have hfin := RefPost.bad (w := w) (w' := wr) (L.bad_of hc Hp.out H0.out (L.fE2 C8.out C4.out C6.out C3.out (by rw [← Hk.out]; omega)) (by decide)) hb
            have HF := Lib.hid hfin
            have t4 : ((a : Int) + (k : Int) == (a : Int) + 7) = true := beq_iff_eq.2 (by omega)
            have h7a : 7 ≤ k := by omega
            clear hfin h7
            by_cases q1 : a + k < s.size
            · by_cases q2 : 48 ≤ s[a + k].toNat
              · by_cases q3 : s[a + k].toNat ≤ 57
                · go_wp2_with fail
                  go_ret3
                  exact HF.out
                · go_wp2_with fail
                  go_ret3
                  exact HF.out
              · go_wp2_with fail
                go_ret3
                exact HF.out
            · go_wp2_with fail
              go_ret3
              exact HF.out
          · have t4 : ((a : Int) + (k : Int) == (a : Int) + 7) = false := beq_eq_false_iff_ne.2 (by omega)
            have t5 : ((a : Int) + (k : Int) == (s.size : Int)) = true := beq_iff_eq.2 (by omega)
            have hd := L.done_of hc Hp.out H0.out (L.fE0 C8.out C4.out C6.out C3.out (by rw [← Hk.out]; omega)) rfl (by rw [← Hk.out]; simpa using hend)
            have HD := Lib.hid hd
            have hge : s.size ≤ a + k := by omega
            clear hd hend
            go_wp2_with (at_builtin; refine wpList_append_own _ rfl _ _ 22 rfl w.heap.size 3 i0 (.int .i64 0) 1 8 Tryd.underlying22 hi hz0 hz1 hz2 rfl (by decide) _ _ _ rfl (hown.alloc _) ⟨wr.heap.size, 0, none⟩ 1 1 [.int .i64 (L.val ((s.data.toList.drop a).take k) : Int)] rfl rfl (cell_one_new _ _ _) (by simp [Value.oneCell']) (by simp only [maxLen]; omega) (by omega) (by have := hb.size; simp; omega) ?_; intro v' w3 hown' hgrow _; obtain ⟨g', cap', rfl⟩ := ownsRow_succ hown')
            go_ret3
            refine RefPost.ok (xs := pre.map (·.ord) ++ [L.val ((s.data.toList.drop a).take k)]) HD.out.1 (by rw [HD.out.2, Hk.out]) (by simp [Hlen.out]) (by rw [nums_snoc]; exact Row.of_own hown') (own_cap hown') ?_
            exact (hb.alloc hb.size _).grown hgrow (by have := hb.size; simp; omega) (own_ge hown)
          · have hz' : ¬ (48 ≤ s[a + k].toNat ∧ s[a + k].toNat ≤ 57) := by
              intro h; simp [L.dig, h] at hdk
            have t4 : ((a : Int) + (k : Int) == (a : Int) + 7) = false := beq_eq_false_iff_ne.2 (by omega)
            have t5 : ((a : Int) + (k : Int) == (s.size : Int)) = false := beq_eq_false_iff_ne.2 (by omega)
            have hlo : s[a + k].toNat < 48 ∨ 57 < s[a + k].toNat := by omega
            clear hz' hdk
            by_cases hdot : s[a + k] = 46
            · have t6 : ((s[a + k].toNat : Int) != 46) = false := by rw [hdot]; rfl
              have h46 : s[a + k].toNat < 48 := by rw [hdot]; decide
              have hmore := L.more_of (by have := C8.out; omega) Hp.out (L.fE0 C8.out C4.out C6.out C3.out (by rw [← Hk.out]; omega)) rfl (by rw [← Hk.out]; simp; omega) (by rw [← Hk.out, at_toList hltk, hdot])
              have HM := Lib.hid hmore
              clear hmore hdot hlo
              go_wp2_with (at_builtin; refine wpList_append_own _ rfl _ _ 22 rfl w.heap.size 3 i0 (.int .i64 0) 1 8 Tryd.underlying22 hi hz0 hz1 hz2 rfl (by decide) _ _ _ rfl (hown.alloc _) ⟨wr.heap.size, 0, none⟩ 1 1 [.int .i64 (L.val ((s.data.toList.drop a).take k) : Int)] rfl rfl (cell_one_new _ _ _) (by simp [Value.oneCell']) (by simp only [maxLen]; omega) (by omega) (by have := hb.size; simp; omega) ?_; intro v' w3 hown' hgrow _; obtain ⟨g', cap', rfl⟩ := ownsRow_succ hown')
              go_roundw
              case rel => exact ⟨pre ++ [⟨L.val ((s.data.toList.drop a).take (L.dc 7 (s.data.toList.drop a))), a, 0⟩], _, a + k + 1, cnt + 1, _, rfl, by go_num, by rw [List.map_append, nums_append]; simpa [nums, Hk.out] using hown', by simp [Hlen.out], by omega, by have := C8.out; omega, by rw [Hk.out]; exact HM.out, fun y hy => by
                rcases List.mem_append.1 hy with h | h
                · exact H0.out y h
                · rw [List.mem_singleton.1 h], (hb.alloc hb.size _).grown hgrow (by have := hb.size; simp; omega) (own_ge hown)⟩
              case measure => simp [intOf]; omega
            · have t6 : ((s[a + k].toNat : Int) != 46) = true := by
                rw [bne_iff_ne]; intro h; exact hdot (UInt8.toNat_inj.1 (by show s[a + k].toNat = 46; omega))
              have hfin := L.bad_dot hc Hp.out H0.out (L.fE0 C8.out C4.out C6.out C3.out (by rw [← Hk.out]; omega)) rfl (by rw [← Hk.out]; simp; omega) (by rw [← Hk.out, at_toList hltk]; intro h; exact hdot (Option.some.inj h))
              rw [← Hk.out] at hfin
              have HF := Lib.hid hfin
              clear hfin hdot
              rcases hlo with hlo | hhi
              all_goals
                go_wp2_with (at_builtin; refine wpList_append_own _ rfl _ _ 22 rfl w.heap.size 3 i0 (.int .i64 0) 1 8 Tryd.underlying22 hi hz0 hz1 hz2 rfl (by decide) _ _ _ rfl (hown.alloc _) ⟨wr.heap.size, 0, none⟩ 1 1 [.int .i64 (L.val ((s.data.toList.drop a).take k) : Int)] rfl rfl (cell_one_new _ _ _) (by simp [Value.oneCell']) (by simp only [maxLen]; omega) (by omega) (by have := hb.size; simp; omega) ?_; intro v' w3 hown' hgrow _; obtain ⟨g', cap', rfl⟩ := ownsRow_succ hown')
                go_ret3
                refine RefPost.bad HF.out ?_
                exact (hb.alloc hb.size _).grown hgrow (by have := hb.size; simp; omega) (own_ge hown)
end Go.Proofs.YtjgofoliikflaaaDoor
