/-
  What the walks of Of and tidy share: the last element's end stored; cut rows; where an insertion begins.
-/
import Derived.Test.YtgjoldjfeobjgaaDoorRgOwn
namespace Go.Proofs.YtgjoldjfeobjgaaDoor
open Go.RowKit

theorem pv_drop (l : List G.Rg) (k : Nat) (h : k ≤ l.length) : pv (l.drop k) = (pv l).drop (k * 2) := by
  have e : pv l = pv (l.take k) ++ pv (l.drop k) := by rw [← pv_append, List.take_append_drop]
  have e2 : (pv (l.take k)).length = k * 2 := by rw [pv_len, List.length_take]; omega
  rw [e, ← e2, List.drop_left]
theorem Row.cut {w : World} {B : Nat} {A : Option Addr} {vs : List Value} (h : Row w B A vs) (cap j s : Nat) (hj : cap = j → vs.drop (j * s) = []) : Row w B (if cap = j then A else A.map (fun x => x.add (j * s))) (vs.drop (j * s)) := by
  by_cases hc : cap = j
  · rw [hj hc]; exact .inl rfl
  · rw [if_neg hc]
    rcases h with rfl | ⟨b, o, rfl, h2, h3⟩
    · exact .inl (by simp)
    · refine .inr ⟨b, o + j * s, by rw [Option.map_some, Addr.add_lit], h2, fun i u hu => ?_⟩
      rw [Nat.add_assoc]
      exact h3 _ u (by rw [← hu, List.getElem?_drop])
theorem cell_last {w : World} {base g c : Nat} {e : TypeId} {m : List G.Rg} {q : G.Rg} (h : w.ownsRow base e 2 (.slice (some ⟨g, 0, none⟩) (m.length + 1) c) (m.length + 1) (pv (m ++ [q]))) :
    w.cell? ⟨g, m.length * 2, none⟩ = some (.int .i64 q.1) ∧ w.cell? ⟨g, m.length * 2 + 1, none⟩ = some (.int .i64 q.2) ∧ w.frozen? ⟨g, m.length * 2 + 1, none⟩ = false ∧ g < w.heap.size ∧ base ≤ g := by
  obtain ⟨g', cap, hv, hb, hg⟩ := h.form (by omega)
  have hgg : g' = g := by
    injection hv with hA
    injection hA with hA
    injection hA with hA
    exact hA.symm
  subst hgg
  have h1 := h.cellAt (m.length * 2) (by omega)
  have h2 := h.cellAt (m.length * 2 + 1) (by omega)
  have hl : m.length < (m ++ [q]).length := by simp
  rw [pv_from _ _ hl] at h1
  rw [pv_to _ _ hl] at h2
  simp at h1 h2
  exact ⟨h1, h2, h.frozenAt _, hg, hb⟩
theorem own_last {w : World} {base g c : Nat} {e : TypeId} {m : List G.Rg} {q : G.Rg} {z : Int} (h : w.ownsRow base e 2 (.slice (some ⟨g, 0, none⟩) (m.length + 1) c) (m.length + 1) (pv (m ++ [q]))) :
    (w.setCell ⟨g, m.length * 2 + 1, none⟩ (.int .i64 z)).ownsRow base e 2 (.slice (some ⟨g, 0, none⟩) (m.length + 1) c) (m.length + 1) (pv (m ++ [(q.1, z)])) ∧ w.grownBy (w.setCell ⟨g, m.length * 2 + 1, none⟩ (.int .i64 z)) (some g) := by
  have := h.stored (m.length * 2 + 1) (.int .i64 z)
  have e : (pv (m ++ [q])).set (m.length * 2 + 1) (.int .i64 z) = pv (m ++ [(q.1, z)]) := by
    rw [pv_append, pv_append, List.set_append_right _ _ (by rw [pv_len]; omega), pv_len, show m.length * 2 + 1 - m.length * 2 = 1 by omega]
    rfl
  rw [e] at this
  exact this
namespace G
theorem tw_eq {p : Rg → Bool} : ∀ {l : List Rg} {j : Nat}, (∀ i (h : i < l.length), i < j → p l[i] = true) → j ≤ l.length → (∀ h : j < l.length, p l[j] = false) → l.takeWhile p = l.take j ∧ l.dropWhile p = l.drop j
  | [], j, _, _, _ => by simp
  | a :: l, 0, _, _, h2 => by
    have := h2 (by simp)
    simp at this
    rw [List.takeWhile_cons, List.dropWhile_cons, if_neg (by simp [this]), if_neg (by simp [this])]
    simp
  | a :: l, j + 1, h1, hj, h2 => by
    have h0 := h1 0 (by simp) (by omega)
    simp at h0
    obtain ⟨e1, e2⟩ := tw_eq (l := l) (j := j) (fun i h hi => h1 (i + 1) (by simpa using h) (by omega)) (by simpa using hj) (fun h => h2 (by simpa using h))
    rw [List.takeWhile_cons, List.dropWhile_cons, if_pos h0, if_pos h0, e1, e2]
    simp
theorem ins_at {l : List Rg} {r : Rg} {j : Nat} (h1 : ∀ i (h : i < l.length), i < j → l[i].1 < r.1) (hj : j ≤ l.length) (h2 : ∀ h : j < l.length, ¬ l[j].1 < r.1) : ins l r = l.take j ++ r :: l.drop j := by
  obtain ⟨e1, e2⟩ := tw_eq (l := l) (p := fun q => decide (q.1 < r.1)) (j := j) (fun i h hi => by simpa using h1 i h hi) hj (fun h => by simpa using h2 h)
  rw [ins, e1, e2]
def insF (acc : List Rg) (r : Rg) : List Rg := if r.1 = r.2 then acc else ins acc r
theorem insAll_eq (l : List Rg) : insAll l = l.foldl insF [] := rfl
theorem insF_len (acc : List Rg) (r : Rg) : (insF acc r).length ≤ acc.length + 1 := by
  unfold insF
  split
  · omega
  · have := (ins_perm acc r).length_eq
    simp at this; omega
theorem insF_fold_len : ∀ (l acc : List Rg), (l.foldl insF acc).length ≤ acc.length + l.length
  | [], _ => by simp
  | r :: l, acc => by
    have := insF_fold_len l (insF acc r)
    have := insF_len acc r
    simp only [List.foldl_cons, List.length_cons]; omega
theorem insF_ne : ∀ (l acc : List Rg), (∀ r ∈ acc, r.1 ≠ r.2) → ∀ r ∈ l.foldl insF acc, r.1 ≠ r.2
  | [], _, h => h
  | q :: l, acc, h => by
    rw [List.foldl_cons]
    refine insF_ne l _ ?_
    intro r hr
    unfold insF at hr
    split at hr
    · exact h r hr
    · rename_i hq
      rcases List.mem_cons.1 ((ins_perm acc q).mem_iff.1 hr) with rfl | hr
      · exact hq
      · exact h r hr
theorem mstep_nil {r : Rg} (h : r.1 ≠ r.2) : mstep [] r = [r] := by unfold mstep; rw [if_neg h]; rfl
theorem mstep_more {m : List Rg} {q r : Rg} (h : r.1 ≠ r.2) (h2 : r.1 ≤ q.2) : mstep (m ++ [q]) r = m ++ [(q.1, max q.2 r.2)] := by
  unfold mstep; rw [if_neg h, getLast?_snoc]; simp only; rw [if_pos h2, List.dropLast_concat]
theorem mstep_new {m : List Rg} {q r : Rg} (h : r.1 ≠ r.2) (h2 : ¬ r.1 ≤ q.2) : mstep (m ++ [q]) r = m ++ [q] ++ [r] := by
  unfold mstep; rw [if_neg h, getLast?_snoc]; simp only; rw [if_neg h2]
theorem mstep_same {acc : List Rg} {r : Rg} (h : r.1 = r.2) : mstep acc r = acc := if_pos h
end G
end Go.Proofs.YtgjoldjfeobjgaaDoor
