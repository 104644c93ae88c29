/- The contract of All of a box over type 9 (written by mailall.py). -/
import Derived.Test.YtilmdimffgohjaaB
import Derived.Test.YtilmdimffgohjaaD
namespace Go.Proofs.Ytilmdimffgohjaa
open Go.ChangeShapes Go.WideShapes Go.ChangeAt Go.RowKit
set_option linter.unusedVariables false

theorem Try.info9 : (Try.prog.info? 9).map (fun i => (i.zero, i.size, i.bytes)) = some (some (.string { data := #[] }), 1, 16) := by kernel_rfl

theorem grown_onS {w wr w' : World} {c : Nat} {row : Option Nat} (h : w.grownBy wr (some c)) (hg : wr.grownBy w' row) (hr : ∀ k, row = some k → w.heap.size ≤ k ∨ k = c) : w.grownBy w' (some c) :=
  ⟨hg.os.trans h.os, hg.tape.trans h.tape, hg.output.trans h.output, Nat.le_trans h.size hg.size, fun k hk hn => (hg.block k (Nat.lt_of_lt_of_le hk h.size) (fun e => by
    rcases hr k e.symm with h1 | h1
    · omega
    · exact hn (by rw [h1]))).trans (h.block k hk hn)⟩

theorem grown_allocS {w wr : World} {c : Nat} (h : w.grownBy wr (some c)) (o : Obj) : w.grownBy (wr.alloc o) (some c) :=
  ⟨h.os, h.tape, h.output, by simp only [World.size_alloc]; exact Nat.le_succ_of_le h.size, fun k hk hn => (Below.heap_alloc _ _ _ (Nat.lt_of_lt_of_le hk h.size)).trans (h.block k hk hn)⟩

set_option maxRecDepth 100000 in
theorem all_boxS (l : List Value) (hl : ∀ x ∈ l, ∃ s : _, x = Value.string s) (w : World) (p c cap : Nat) (h : BoxAt w p c cap l) (hlc : l.length ≤ cap) (hcap : (cap : Int) ≤ 16) :
    Calls Try.prog 16 #[.pointer (some ⟨p, 0, none⟩)] w fun e w' => ∃ v, e = .returned v ∧ w'.ownsRow w.heap.size 9 1 v l.length l ∧ BoxAt w' p c cap l ∧ w.grownBy w' (some c) := by
  obtain ⟨j0, hj, hy0, hy1, hy2⟩ := info_parts Try.info9
  have hpc := h.lt
  have H := Lib.hid h
  have HL := Lib.hid hl
  clear h hl
  obtain ⟨n, hn⟩ : ∃ n, n = l.length := ⟨_, rfl⟩
  rw [← hn] at hlc ⊢
  have HN := Lib.hid hn
  go_enter Try.func16, Try.ntmps16
  go_wp2_with fail
  refine (len_boxS _ p c cap _ H.out).mono ?_
  rw [← hn]
  rintro e w2 ⟨rfl, rfl⟩
  clear hn
  go_wp2_with fail
  go_loopw [3, 4] (fun v i wr => ∃ k : Nat, k ≤ n ∧ i = .int .i64 ((n : Int) - k) ∧ wr.ownsRow w.heap.size 9 1 v k (l.take k) ∧ BoxAt wr p c cap (l.drop k ++ l.take k) ∧ w.grownBy wr (some c)) (fun _ i _ => (intOf i).toNat)
  case atStart => exact ⟨0, Nat.zero_le _, by simp, World.ownsRow_nil _ _ _ _, by simpa using H.out, World.grownBy.refl _ _⟩
  case round =>
    clear H
    obtain ⟨k, hk, rfl, hown, hbox, hgr⟩ := hrel
    have HO := Lib.hid hown
    have HX := Lib.hid hbox
    have HG := Lib.hid hgr
    have hsz := hgr.size
    clear hown hbox hgr
    by_cases hkn : k < n
    · obtain ⟨x, hx⟩ : ∃ x, l[k]? = some x := ⟨_, List.getElem?_eq_getElem (by rw [← HN.out]; exact hkn)⟩
      obtain ⟨hk1, hk2⟩ := List.getElem?_eq_some_iff.1 hx
      have hd : l.drop k = x :: l.drop (k + 1) := by rw [List.drop_eq_getElem_cons hk1, hk2]
      have ht : l.take (k + 1) = l.take k ++ [x] := by rw [List.take_add_one, hx]; rfl
      obtain ⟨s, rfl⟩ := HL.out x (hk2 ▸ List.getElem_mem hk1)
      have hb1 : BoxAt wr p c cap (Value.string s :: (l.drop (k + 1) ++ l.take k)) := by have h := HX.out; rw [hd] at h; exact h
      have HX1 := Lib.hid hb1
      have HT := Lib.hid ht
      have hlen : (l.drop (k + 1) ++ l.take k).length < cap := by
        have := HN.out
        simp only [List.length_append, List.length_drop, List.length_take]
        omega
      have hkn' : (0 : Int) < (n : Int) - k := by omega
      clear hb1 hd ht hx hk1 hk2 HX
      go_wp2_with fail
      refine (take_someS _ _ _ p c cap HX1.out).mono ?_
      rintro e w3 ⟨rfl, hbox, hg⟩
      have hc0 : ∀ b, u3.ownBlock = some b → w.heap.size ≤ b := fun b hb => (HO.out.lt b hb).1
      have HO3 := Lib.hid (HO.out.kept hg (.inr fun e => by have := hc0 c e; omega))
      have HG3 := Lib.hid (grown_onS HG.out hg (fun k hk => by cases hk; exact .inr rfl))
      have HX3 := Lib.hid hbox
      have hsz3 := HG3.out.size
      clear hbox hg
      go_wp2_with (at_builtin; refine wpList_append_own _ rfl (.tmp 18) (.tmp 20) 33 rfl w.heap.size 9 j0 (.string { data := #[] }) 1 16 Try.underlying33 hj hy0 hy1 hy2 rfl (by decide) _ _ _ rfl (HO3.out.alloc _) _ 1 1 [Value.string s] rfl ?_ ?_ ?_ ?_ ?_ ?_ ?_)
      · rfl
      · exact cell_one_new _ _ _
      · simp [Value.oneCell']
      · unfold maxLen; omega
      · omega
      · simp; omega
      intro v' w4 hown' hgrow' _
      have HO4 := Lib.hid hown'
      have HG4 := Lib.hid (grown_onS (grown_allocS HG3.out _) hgrow' (fun k hk => .inl (HO3.out.lt k hk).1))
      have hv1 : u3.ownBlock ≠ some p := fun e => by have := hc0 p e; omega
      have hv2 : u3.ownBlock ≠ some c := fun e => by have := hc0 c e; omega
      have HX4 : Hid (BoxAt w4 p c cap (l.drop (k + 1) ++ l.take k)) := Lib.hid ((HX3.out.below ((Below.refl _ _).alloc (Nat.le_refl _) _) (Nat.le_refl _)).grown hgrow' hv1 hv2)
      have hc4 : ∀ b, v'.ownBlock = some b → w.heap.size ≤ b := fun b hb => (HO4.out.lt b hb).1
      clear hown' hgrow' hv1 hv2
      go_wp2_with fail
      refine (put_roomS (Value.string s) _ p c cap _ HX4.out hlen).mono ?_
      rintro e w5 ⟨rfl, hbox, hg⟩
      rw [List.append_assoc, ← HT.out] at hbox
      have HX5 := Lib.hid hbox
      have HO5 := Lib.hid (HO4.out.kept hg (.inr fun e => by have := hc4 c e; omega))
      rw [← HT.out] at HO5
      have HG5 := Lib.hid (grown_onS HG4.out hg (fun k hk => by cases hk; exact .inr rfl))
      clear hbox hg hc4 hc0
      go_wp2_with fail
      go_roundw
      case rel => exact ⟨k + 1, by omega, by go_num, HO5.out, HX5.out, HG5.out⟩
      case measure => simp [intOf]; omega
    · obtain rfl : k = n := by omega
      have ht : l.take k = l := by rw [HN.out]; exact List.take_length
      have hd : l.drop k = [] := by rw [HN.out]; exact List.drop_length
      rw [ht] at HO
      rw [ht, hd, List.nil_append] at HX
      clear ht hd
      go_wp2_with fail
      go_ret
      exact ⟨_, rfl, HO.out, HX.out, HG.out⟩
end Go.Proofs.Ytilmdimffgohjaa
