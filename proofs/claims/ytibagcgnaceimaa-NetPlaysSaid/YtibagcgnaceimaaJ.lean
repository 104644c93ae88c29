/- A row of datagrams without its k-th, by two appends to a new row: the parts that are read. -/
import Derived.Test.YtibagcgnaceimaaV
namespace Go.Proofs.Ytibagcgnaceimaa
open Go.ChangeShapes Go.WideShapes Go.ChangeAt Go.RowKit
set_option linter.unusedVariables false

theorem owns_len {w : World} {base : Nat} {e : TypeId} {size : Nat} {ao : Option Addr} {n n' c : Nat} {xs : List Value} (h : w.ownsRow base e size (.slice ao n c) n' xs) : w.ownsRow base e size (.slice ao n c) n xs := by
  obtain ⟨_, _, he, _⟩ := owns_slice h
  simp only [Value.slice.injEq] at he
  rw [he.2.1] at h ⊢
  exact h
theorem src_take {w : World} {base g n n' c : Nat} {H : List (Dg × Value)} (h' : w.ownsRow base 31 3 (.slice (some ⟨g, 0, none⟩) n c) n' (dcells H)) (hn : n = H.length) (k : Nat) (hk : k ≤ n) : SrcAt w (some ⟨g, 0, none⟩) k c (dcells (H.take k)) := by
  have h := owns_len h'
  exact .inr ⟨_, rfl, fun j u hu => by
    have hj := (List.getElem?_eq_some_iff.1 hu).1
    rw [dcells_length, List.length_take] at hj
    rw [add_none, Nat.zero_add, h.cellAt j (by omega), ← hu, ← dcells_take, List.getElem?_take, if_pos (by omega)]⟩
theorem src_drop {w : World} {base g n n' c c' : Nat} {H : List (Dg × Value)} (h' : w.ownsRow base 31 3 (.slice (some ⟨g, 0, none⟩) n c) n' (dcells H)) (hn : n = H.length) (k : Nat) (hk : k ≤ n) : SrcAt w (some ⟨g, k * 3, none⟩) (n - k) c' (dcells (H.drop k)) := by
  have h := owns_len h'
  exact .inr ⟨_, rfl, fun j u hu => by
    have hj := (List.getElem?_eq_some_iff.1 hu).1
    rw [dcells_length, List.length_drop] at hj
    rw [add_none, h.cellAt (k * 3 + j) (by omega), ← hu, ← dcells_drop, List.getElem?_drop]⟩
theorem src_none {w : World} {ad : Addr} {c : Nat} : SrcAt w (some ad) 0 c [] := .inr ⟨ad, rfl, fun j u hu => by simp at hu⟩

theorem dcells_oneCell {H : List (Dg × Value)} (h : ∀ p ∈ H, ∃ ao n c, p.2 = .slice ao n c) : ∀ u ∈ dcells H, u.oneCell' = true := by
  intro u hu
  obtain ⟨p, hp, hu⟩ := List.mem_flatMap.1 hu
  simp only [List.mem_cons, List.not_mem_nil, or_false] at hu
  rcases hu with rfl | rfl | hu
  · rfl
  · rfl
  · obtain ⟨a', n', c', he⟩ := h p hp
    rw [hu, he]; rfl

theorem erase_parts {H : List (Dg × Value)} {k : Nat} (hk : k < H.length) : ([] ++ dcells (H.take k)) ++ dcells (H.drop (k + 1)) = dcells (H.eraseIdx k) := by
  rw [List.nil_append, ← dcells_append, ← List.eraseIdx_eq_take_drop_succ]
theorem erase_length {H : List (Dg × Value)} {k : Nat} (hk : k < H.length) : 0 + k + (H.length - (k + 1)) = (H.eraseIdx k).length := by
  rw [List.length_eraseIdx, if_pos hk]; omega
theorem without_le (L : List Dg) (k : Int) : (without L k).length ≤ L.length := by
  unfold without
  split
  · exact List.length_eraseIdx_le _ _
  · exact Nat.le_refl _
theorem without_map {H : List (Dg × Value)} {L : List Dg} (hm : H.map (·.1) = L) {k : Nat} (hk : k < L.length) : (H.eraseIdx k).map (·.1) = without L k := by
  subst hm
  simp [without, inB_in hk, List.eraseIdx_eq_take_drop_succ]

/-- What is left of a list of one's own when a new row is laid over it without the k-th. -/
theorem DList.rest {w : World} {base b2 : Nat} {v vB : Value} {H : List (Dg × Value)} {k : Nat} (h : DList base w v H) (hB : w.ownsRow b2 31 3 vB (H.eraseIdx k).length (dcells (H.eraseIdx k))) : DList 0 w vB (H.eraseIdx k) :=
  ⟨owns_weaken hB (Nat.zero_le _), fun p hp => owns_weaken (h.dg p (List.mem_of_mem_eraseIdx hp)) (Nat.zero_le _), fun p hp => h.small p (List.mem_of_mem_eraseIdx hp)⟩
end Go.Proofs.Ytibagcgnaceimaa
