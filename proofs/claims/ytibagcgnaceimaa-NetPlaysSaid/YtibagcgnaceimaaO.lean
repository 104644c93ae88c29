/- A list of datagrams of one's own is written into: it stays such a list, its headers the same. -/
import Derived.Test.YtibagcgnaceimaaB
namespace Go.Proofs.Ytibagcgnaceimaa
open Go.ChangeShapes Go.WideShapes Go.ChangeAt Go.RowKit Go.Joins Go.Deep
set_option linter.unusedVariables false

theorem bytes_stored {w : World} {base : Nat} {v : Value} {n : Nat} {bs : List Int} (h : w.ownsRow base 5 1 v n (u8s bs)) (b j : Nat) (x : Int) :
    ∃ bs', bs'.length = bs.length ∧ (w.setCell ⟨b, j, none⟩ (.int .u8 x)).ownsRow base 5 1 v n (u8s bs') := by
  by_cases hb : v.ownBlock = some b
  · rcases h.2 with ⟨rfl, _⟩ | ⟨g, cap, cur, rfl, _⟩
    · cases hb
    · cases hb
      refine ⟨bs.set j x, by simp, ?_⟩
      have := (h.stored j (.int .u8 x)).1
      rwa [show (u8s bs).set j (.int .u8 x) = u8s (bs.set j x) by simp [u8s, List.map_set]] at this
  · exact ⟨bs, rfl, h.kept (grown_set _ _ _ _) (.inr hb)⟩

theorem dcells_same {H K : List (Dg × Value)} (h : K.map (fun p => (p.1.fr, p.1.to, p.2)) = H.map (fun p => (p.1.fr, p.1.to, p.2))) : dcells K = dcells H := by
  have e : ∀ M : List (Dg × Value), dcells M = (M.map (fun p => (p.1.fr, p.1.to, p.2))).flatMap (fun q => [.int .i64 q.1, .int .i64 q.2.1, q.2.2]) := by
    intro M; simp [dcells, List.flatMap_map]
  rw [e, e, h]

/-- A byte is written, anywhere but in the row itself. -/
theorem DList.byte {base : Nat} {w : World} {v : Value} {H : List (Dg × Value)} (h : DList base w v H) (b j : Nat) (x : Int) (hv : v.ownBlock ≠ some b) :
    ∃ K : List (Dg × Value), K.map (fun p => (p.1.bs.length, p.2)) = H.map (fun p => (p.1.bs.length, p.2)) ∧ DList base (w.setCell ⟨b, j, none⟩ (.int .u8 x)) v K := by
  have key : ∀ H : List (Dg × Value), (∀ p ∈ H, w.ownsRow base 5 1 p.2 p.1.bs.length (u8s p.1.bs)) → ∃ K : List (Dg × Value), K.map (fun p => (p.1.fr, p.1.to, p.2)) = H.map (fun p => (p.1.fr, p.1.to, p.2)) ∧ K.map (fun p => (p.1.bs.length, p.2)) = H.map (fun p => (p.1.bs.length, p.2)) ∧
      ∀ p ∈ K, (w.setCell ⟨b, j, none⟩ (.int .u8 x)).ownsRow base 5 1 p.2 p.1.bs.length (u8s p.1.bs) := by
    intro H
    induction H with
    | nil => exact fun _ => ⟨[], rfl, rfl, fun p hp => by cases hp⟩
    | cons p r ih =>
      intro hd
      obtain ⟨K, h1, h2, h3⟩ := ih (fun q hq => hd q (List.mem_cons_of_mem _ hq))
      obtain ⟨bs', e1, e2⟩ := bytes_stored (hd p List.mem_cons_self) b j x
      refine ⟨(⟨p.1.fr, p.1.to, bs'⟩, p.2) :: K, by simp [h1], by simp [h2, e1], fun q hq => ?_⟩
      rcases List.mem_cons.1 hq with rfl | hq
      · simpa [e1] using e2
      · exact h3 q hq
  obtain ⟨K, h1, h2, h3⟩ := key H h.dg
  have hl : K.length = H.length := by have := congrArg List.length h1; simpa using this
  refine ⟨K, h2, ⟨?_, h3, fun p hp => ?_⟩⟩
  · rw [hl, dcells_same h1]
    exact h.row.kept (grown_set _ _ _ _) (.inr hv)
  · have hm : (p.1.bs.length, p.2) ∈ H.map (fun p => (p.1.bs.length, p.2)) := h2 ▸ List.mem_map.2 ⟨p, hp, rfl⟩
    obtain ⟨q, hq, he⟩ := List.mem_map.1 hm
    simp only [Prod.mk.injEq] at he
    have := h.small q hq
    omega

theorem dcells_set (H : List (Dg × Value)) (i : Nat) (x : Int) (p : Dg × Value) (h : H[i]? = some p) : (dcells H).set (i * 3) (.int .i64 x) = dcells (H.set i (⟨x, p.1.to, p.1.bs⟩, p.2)) := by
  induction H generalizing i with
  | nil => simp at h
  | cons q r ih =>
    cases i with
    | zero =>
      simp only [List.getElem?_cons_zero, Option.some.injEq] at h
      subst h
      simp [dcells]
    | succ i =>
      simp only [List.getElem?_cons_succ] at h
      have := ih i h
      simp only [dcells, List.flatMap_cons, List.set_cons_succ] at this ⊢
      rw [← this, show (i + 1) * 3 = i * 3 + 1 + 1 + 1 by omega]
      simp

/-- A datagram's sender is written. -/
theorem DList.sender {base g n c : Nat} {w : World} {H : List (Dg × Value)} (h : DList base w (.slice (some ⟨g, 0, none⟩) n c) H) (i : Nat) (hi : i < H.length) (x : Int) :
    ∃ K : List (Dg × Value), K.map (fun p => (p.1.bs.length, p.2)) = H.map (fun p => (p.1.bs.length, p.2)) ∧ DList base (w.setCell ⟨g, i * 3, none⟩ (.int .i64 x)) (.slice (some ⟨g, 0, none⟩) n c) K := by
  have hp := List.getElem?_eq_getElem hi
  generalize H[i] = p at hp
  have hmem : p ∈ H := List.mem_of_getElem? hp
  obtain ⟨_, _, he, _⟩ := owns_slice h.row
  simp only [Value.slice.injEq] at he
  obtain ⟨_, rfl, _⟩ := he
  have ho : ∀ q ∈ H, (w.setCell ⟨g, i * 3, none⟩ (.int .i64 x)).ownsRow base 5 1 q.2 q.1.bs.length (u8s q.1.bs) := fun q hq =>
    (h.dg q hq).kept (grown_set _ _ _ _) (.inr (owns_type h.row (h.dg q hq) (by decide) g rfl))
  refine ⟨H.set i (⟨x, p.1.to, p.1.bs⟩, p.2), ?_, ?_, fun q hq => ?_, fun q hq => ?_⟩
  · rw [List.map_set]
    apply List.ext_getElem?
    intro j
    rw [List.getElem?_set]
    split
    · rename_i hj
      subst hj
      rw [List.length_map, if_pos hi, List.getElem?_map, hp]
      rfl
    · rfl
  · rw [← dcells_set H i x p hp, List.length_set]
    exact (h.row.stored (i * 3) (.int .i64 x)).1
  · rcases List.mem_or_eq_of_mem_set hq with hq | rfl
    · exact ho q hq
    · exact ho p hmem
  · rcases List.mem_or_eq_of_mem_set hq with hq | rfl
    · exact h.small q hq
    · exact h.small p hmem

theorem DList.elem {base g n c : Nat} {w : World} {H : List (Dg × Value)} (h : DList base w (.slice (some ⟨g, 0, none⟩) n c) H) (j m : Nat) (sv : Value) (he : (H.map (fun p => (p.1.bs.length, p.2)))[j]? = some (m, sv)) :
    w.cell? ⟨g, j * 3 + 2, none⟩ = some sv ∧ ∃ bs, w.ownsRow base 5 1 sv m (u8s bs) ∧ sv.ownBlock ≠ some g := by
  rw [List.getElem?_map, Option.map_eq_some_iff] at he
  obtain ⟨p, hp, he⟩ := he
  simp only [Prod.mk.injEq] at he
  obtain ⟨rfl, rfl⟩ := he
  have hj := (List.getElem?_eq_some_iff.1 hp).1
  have hd := h.dg p (List.mem_of_getElem? hp)
  obtain ⟨_, _, hs, _⟩ := owns_slice h.row
  simp only [Value.slice.injEq] at hs
  obtain ⟨_, rfl, _⟩ := hs
  exact ⟨(h.row.cellAt _ (by omega)).trans (dcells_at H j p hp).2.2, _, hd, owns_type h.row hd (by decide) g rfl⟩

/-- A byte of one's own bytes: it is there, it is not frozen. -/
theorem owns_byte {w : World} {base : Nat} {v : Value} {m : Nat} {bs : List Int} (h : w.ownsRow base 5 1 v m (u8s bs)) (x : Nat) (hx : x < m) :
    ∃ b c y, v = .slice (some ⟨b, 0, none⟩) m c ∧ base ≤ b ∧ b < w.heap.size ∧ m ≤ c ∧ c ≤ maxLen ∧ w.cell? ⟨b, x, none⟩ = some (.int .u8 y) ∧ w.frozen? ⟨b, x, none⟩ = false := by
  obtain ⟨b, c, rfl, h1, h2, h3, h4⟩ := owned_head h (by omega)
  have hl : bs.length = m := by have := h.1; simpa [u8s] using this
  refine ⟨b, c, bs.getD x 0, rfl, h1, h2, h3, h4, (h.cellAt x (by omega)).trans ?_, h.frozenAt x⟩
  simp [u8s, List.getD_eq_getElem?_getD, List.getElem?_eq_getElem (show x < bs.length by omega)]
end Go.Proofs.Ytibagcgnaceimaa
