/- All of a net: a row of datagrams in new memory. -/
import Derived.Test.YtibagcgnaceimaaE
namespace Go.Proofs.Ytibagcgnaceimaa
open Go.ChangeShapes Go.WideShapes Go.ChangeAt Go.RowKit
set_option linter.unusedVariables false

/-- A row of datagrams of one's own, from block 'base' on, each with bytes of its own. -/
structure DList (base : Nat) (w : World) (v : Value) (H : List (Dg × Value)) : Prop where
  row : w.ownsRow base 31 3 v H.length (dcells H)
  dg : ∀ p ∈ H, w.ownsRow base 5 1 p.2 p.1.bs.length (u8s p.1.bs)
  small : ∀ p ∈ H, p.1.bs.length ≤ 1024

theorem DList.nil (base : Nat) (w : World) : DList base w (.slice none 0 0) [] := ⟨World.ownsRow_nil _ _ _ _, (fun p hp => by cases hp), (fun p hp => by cases hp)⟩

theorem owns_grown {w w' : World} {base : Nat} {e : TypeId} {size : Nat} {v : Value} {n : Nat} {xs : List Value} {row : Option Nat} (h : w.ownsRow base e size v n xs) (hg : w.grownBy w' row) (hr : ∀ k, row = some k → v.ownBlock ≠ some k) : w'.ownsRow base e size v n xs :=
  owns_keep h fun g hk => hg.block g (h.lt g hk).2 (fun e => hr g e.symm hk)

theorem owns_below {w w' : World} {base k : Nat} {e : TypeId} {size : Nat} {v : Value} {n : Nat} {xs : List Value} (h : w.ownsRow base e size v n xs) (hb : Below k w w') (hk : w.heap.size ≤ k) : w'.ownsRow base e size v n xs :=
  owns_keep h fun g hg => hb.block g (Nat.lt_of_lt_of_le (h.lt g hg).2 hk)

theorem DList.below {base k : Nat} {w w' : World} {v : Value} {H : List (Dg × Value)} (h : DList base w v H) (hb : Below k w w') (hk : w.heap.size ≤ k) : DList base w' v H :=
  ⟨owns_below h.row hb hk, fun p hp => owns_below (h.dg p hp) hb hk, h.small⟩

/-- One more in the row. -/
theorem DList.more {base : Nat} {w w3 : World} {v v2 v3 : Value} {H : List (Dg × Value)} {d : Dg} (h : DList base w v H) (hd : w.ownsRow base 5 1 v2 d.bs.length (u8s d.bs))
    (hown : w3.ownsRow base 31 3 v3 (H.length + 1) (dcells H ++ [.int .i64 d.fr, .int .i64 d.to, v2])) (hg : w.grownBy w3 v.ownBlock) (hsm : d.bs.length ≤ 1024) : DList base w3 v3 (H ++ [(d, v2)]) := by
  refine ⟨?_, fun p hp => ?_, fun p hp => ?_⟩
  · rw [dcells_append, dcells_one, List.length_append]; exact hown
  · rcases List.mem_append.1 hp with hp | hp
    · exact owns_grown (h.dg p hp) hg (fun k hk => owns_type h.row (h.dg p hp) (by decide) k hk)
    · rw [List.mem_singleton] at hp
      subst hp
      exact owns_grown hd hg (fun k hk => owns_type h.row hd (by decide) k hk)
  · rcases List.mem_append.1 hp with hp | hp
    · exact h.small p hp
    · rw [List.mem_singleton] at hp; subst hp; exact hsm

section
variable (w : World) (F : Nat → Prop) (n : Nat) (most lost : Int) (v : Value) (H : List (Dg × Value))

set_option maxRecDepth 100000 in
theorem all_net (h : NetAt w F n (netP most lost) v H) (hlen : H.length ≤ 256) :
    Calls Try.prog 11 #[.pointer (some ⟨n, 0, none⟩)] w fun e w' => ∃ v' H', e = .returned v' ∧ H'.map (·.1) = H.map (·.1) ∧ DList w.heap.size w' v' H' ∧ Below w.heap.size w w' := by
  obtain ⟨j0, hj, hy0, hy1, hy2⟩ := info_parts Try.info31
  obtain ⟨c0, c1, c2, f0, f2⟩ := h.cellsP
  have hn := h.lt n h.foot
  have HN := Lib.hid h
  obtain ⟨ao, c, rfl, _⟩ := owns_slice h.row
  clear h c1 c2 f0 f2
  go_enter Try.func11, Try.ntmps11
  go_wp2_with fail
  go_loopw [3, 11] (fun u i wr => ∃ (k : Nat) (K : List (Dg × Value)), k ≤ H.length ∧ i = .int .i64 k ∧ K.map (·.1) = (H.take k).map (·.1) ∧ DList w.heap.size wr u K ∧ Below w.heap.size w wr) (fun _ i _ => H.length - (intOf i).toNat)
  case atStart => exact ⟨0, [], Nat.zero_le _, rfl, by simp, DList.nil _ _, Below.refl _ _⟩
  case round =>
    obtain ⟨k, K, hk, rfl, hm, hd, hbel⟩ := hrel
    have HM := Lib.hid hm
    have HD := Lib.hid hd
    have HB := Lib.hid hbel
    have hsz := hbel.size
    have HNr := Lib.hid (HN.out.below hbel (Nat.le_refl _))
    have hKl : K.length = k := by have := congrArg List.length hm; simp at this; omega
    clear hm hd hbel
    by_cases hkn : k < H.length
    · obtain ⟨p, hp⟩ : ∃ p, H[k]? = some p := ⟨_, List.getElem?_eq_getElem hkn⟩
      obtain ⟨d, sv⟩ := p
      obtain ⟨hkl, hke⟩ := List.getElem?_eq_some_iff.1 hp
      have hmem : (d, sv) ∈ H := hke ▸ List.getElem_mem hkl
      have hsm := HN.out.small _ hmem
      have hdg := (HNr.out.dg _ hmem).1
      have ht : H.take (k + 1) = H.take k ++ [(d, sv)] := by rw [List.take_add_one, hp]; rfl
      have HT := Lib.hid ht
      obtain ⟨g, cap, hv, _, hg, hlc, _⟩ := owned_head HNr.out.row (by omega)
      simp only [Value.slice.injEq, true_and] at hv
      obtain ⟨rfl, rfl⟩ := hv
      obtain ⟨x0, x1, x2⟩ := dcells_at H k _ hp
      simp only at x0 x1 x2 hdg hsm
      have y0 := (HNr.out.row.cellAt (k * 3) (by omega)).trans x0
      have y1 := (HNr.out.row.cellAt (k * 3 + 1) (by omega)).trans x1
      have y2 := (HNr.out.row.cellAt (k * 3 + 2) (by omega)).trans x2
      obtain ⟨so, sc, rfl, hsrc⟩ := owns_src hdg
      have HS := Lib.hid hsrc
      clear hp hke hmem hdg ht x0 x1 x2 hsrc
      go_wp2_with fail
      refine (twin_any d.fr d.to so sc d.bs _ (HS.out.alloc _) (by omega)).mono ?_
      rintro e w2 ⟨v2, rfl, hown2, hb2⟩
      obtain ⟨ao2, c2, rfl, _⟩ := owns_slice hown2
      have hz2 := hb2.size
      simp only [World.size_alloc] at hz2
      have HD2 := Lib.hid ((HD.out.below ((Below.refl _ _).alloc (Nat.le_refl _) (.cells #[.int .i64 d.fr, .int .i64 d.to, .slice so d.bs.length sc] 31)) (Nat.le_refl _)).below hb2 (Nat.le_refl _))
      have HO2 := Lib.hid hown2
      have HB2 : Hid (Below w.heap.size w w2) := Lib.hid ((HB.out.alloc hsz (.cells #[.int .i64 d.fr, .int .i64 d.to, .slice so d.bs.length sc] 31)).trans (hb2.mono (by simp; omega)))
      clear hown2 hb2
      go_wp2_with (at_builtin; refine wpList_append_own _ rfl (.tmp 15) (.tmp 18) 22 rfl w.heap.size 31 j0 (.agg #[.int .i64 0, .int .i64 0, .slice none 0 0]) 3 40 Try.underlying22 hj hy0 hy1 hy2 rfl (by decide) _ _ _ rfl (HD2.out.below ((Below.refl _ _).alloc (Nat.le_refl _) (.cells #[.int .i64 d.fr, .int .i64 d.to, .slice ao2 d.bs.length c2] 31)) (Nat.le_refl _)).row ⟨w2.heap.size, 0, none⟩ 1 1 [.int .i64 d.fr, .int .i64 d.to, .slice ao2 d.bs.length c2] rfl ?_ ?_ ?_ ?_ ?_ ?_ ?_)
      · rfl
      · exact World.news_of_block (heap_alloc_new _ _)
      · intro u hu; simp at hu; rcases hu with rfl | rfl | rfl <;> rfl
      · unfold maxLen; omega
      · omega
      · simp; omega
      intro v' w4 hown' hgrow' _
      have HD4 := Lib.hid ((HD2.out.below ((Below.refl _ _).alloc (Nat.le_refl _) (.cells #[.int .i64 d.fr, .int .i64 d.to, .slice ao2 d.bs.length c2] 31)) (Nat.le_refl _)).more (d := d) (owns_below (owns_weaken HO2.out (by simp; omega)) ((Below.refl _ _).alloc (Nat.le_refl _) _) (Nat.le_refl _)) (by rw [hKl]; exact hown') hgrow' (by omega))
      have HB4 : Hid (Below w.heap.size w w4) := Lib.hid ((HB2.out.alloc (by omega) _).grown hgrow' (by simp; omega) (fun k hk => (HD2.out.row.lt k hk).1))
      clear hown' hgrow'
      go_wp2_with fail
      go_roundw
      case rel => exact ⟨k + 1, K ++ [(d, .slice ao2 d.bs.length c2)], by omega, by go_num, by rw [HT.out, List.map_append, List.map_append, HM.out]; rfl, HD4.out, HB4.out⟩
      case measure => simp [intOf]; omega
    · obtain rfl : k = H.length := by omega
      have ht : H.take H.length = H := List.take_length
      rw [ht] at HM
      clear ht
      go_wp2_with fail
      go_ret
      exact ⟨_, rfl, K, HM.out, HD.out, HB.out⟩
end
end Go.Proofs.Ytibagcgnaceimaa
