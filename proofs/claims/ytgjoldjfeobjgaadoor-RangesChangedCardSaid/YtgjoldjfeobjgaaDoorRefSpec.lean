/-
  PLAIN: the step of the reference's Parse, over L.parts.
-/
import Derived.Test.YtgjoldjfeobjgaaDoorTextSpec
namespace Go.Proofs.YtgjoldjfeobjgaaDoor
namespace L
section
variable {l : List UInt8} {pre : List Part} {a cnt : Nat}
theorem fE9 (h : cnt = 8) : firstE l a cnt = 9 := if_pos h
theorem fE4 (h : ¬ cnt = 8) (h1 : a = l.length) : firstE l a cnt = 4 := by rw [firstE, if_neg h, if_pos h1]
theorem fE6 (h : ¬ cnt = 8) (h1 : ¬ a = l.length) (h2 : dc 7 (l.drop a) = 0) : firstE l a cnt = 6 := by rw [firstE, if_neg h, if_neg h1, if_pos h2]
theorem fE3 (h : ¬ cnt = 8) (h1 : ¬ a = l.length) (h2 : ¬ dc 7 (l.drop a) = 0) (h3 : l[a]? = some 48) : firstE l a cnt = 3 := by rw [firstE, if_neg h, if_neg h1, if_neg h2, if_pos h3]
theorem fE2 (h : ¬ cnt = 8) (h1 : ¬ a = l.length) (h2 : ¬ dc 7 (l.drop a) = 0) (h3 : ¬ l[a]? = some 48) (h4 : 6 < dc 7 (l.drop a)) : firstE l a cnt = 2 := by rw [firstE, if_neg h, if_neg h1, if_neg h2, if_neg h3, if_pos h4]
theorem fE0 (h : ¬ cnt = 8) (h1 : ¬ a = l.length) (h2 : ¬ dc 7 (l.drop a) = 0) (h3 : ¬ l[a]? = some 48) (h4 : ¬ 6 < dc 7 (l.drop a)) : firstE l a cnt = 0 := by rw [firstE, if_neg h, if_neg h1, if_neg h2, if_neg h3, if_neg h4]
theorem first_of_err {E : Nat} (hE : firstE l a cnt = E) (h : E ≠ 0) : first l a cnt = (⟨0, a, E⟩, a) := by rw [first, if_neg (by rw [hE]; exact h), hE]
theorem first_of_ok (hE : firstE l a cnt = 0) : first l a cnt = (⟨val ((l.drop a).take (dc 7 (l.drop a))), a, 0⟩, a + dc 7 (l.drop a)) := by rw [first, if_pos hE]
theorem bad_of {E : Nat} (hc : cnt ≤ 8) (hp : parts l = pre ++ partsFrom l (9 - cnt) a cnt) (h0 : ∀ y ∈ pre, y.e = 0) (hE : firstE l a cnt = E) (h : E ≠ 0) : bad l = some ⟨0, a, E⟩ := by
  rw [show 9 - cnt = (8 - cnt) + 1 by omega, parts_cons (first_of_err hE h) (.inl h)] at hp
  exact bad_some ⟨[], by rw [hp]; simp⟩ h0 h
theorem bad_dot {z : Nat} (hc : cnt ≤ 8) (hp : parts l = pre ++ partsFrom l (9 - cnt) a cnt) (h0 : ∀ y ∈ pre, y.e = 0) (hE : firstE l a cnt = 0) (hz : z = a + dc 7 (l.drop a)) (h : z ≠ l.length) (hd : l[z]? ≠ some 46) : bad l = some ⟨0, z, 6⟩ := by
  subst hz
  rw [show 9 - cnt = (8 - cnt) + 1 by omega, parts_two (first_of_ok hE) rfl h hd] at hp
  exact bad_some (pre := pre ++ [⟨val ((l.drop a).take (dc 7 (l.drop a))), a, 0⟩]) ⟨[], by rw [hp]; simp⟩ (fun y hy => by
    rcases List.mem_append.1 hy with h | h
    · exact h0 y h
    · rw [List.mem_singleton.1 h]) (by simp)
theorem done_of {z : Nat} (hc : cnt ≤ 8) (hp : parts l = pre ++ partsFrom l (9 - cnt) a cnt) (h0 : ∀ y ∈ pre, y.e = 0) (hE : firstE l a cnt = 0) (hz : z = a + dc 7 (l.drop a)) (h : z = l.length) :
    bad l = none ∧ ords l = pre.map (·.ord) ++ [val ((l.drop a).take (dc 7 (l.drop a)))] := by
  subst hz
  rw [show 9 - cnt = (8 - cnt) + 1 by omega, parts_cons (first_of_ok hE) (.inr h)] at hp
  refine ⟨bad_none (fun y hy => ?_), by rw [ords, hp]; simp⟩
  rw [hp] at hy
  rcases List.mem_append.1 hy with h | h
  · exact h0 y h
  · rw [List.mem_singleton.1 h]
theorem more_of {z : Nat} (hc : cnt < 8) (hp : parts l = pre ++ partsFrom l (9 - cnt) a cnt) (hE : firstE l a cnt = 0) (hz : z = a + dc 7 (l.drop a)) (h : z ≠ l.length) (hd : l[z]? = some 46) :
    parts l = (pre ++ [⟨val ((l.drop a).take (dc 7 (l.drop a))), a, 0⟩]) ++ partsFrom l (9 - (cnt + 1)) (z + 1) (cnt + 1) := by
  subst hz
  rw [show 9 - cnt = (8 - cnt) + 1 by omega, parts_more (first_of_ok hE) rfl h hd] at hp
  rw [hp, show 9 - (cnt + 1) = 8 - cnt by omega]
  simp
end
end L
end Go.Proofs.YtgjoldjfeobjgaaDoor
