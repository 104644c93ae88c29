/- The contract of known: two of three. -/
import Derived.Test.YtibagcgnaceimaaU
import Derived.Lib.SlBytesConst
namespace Go.Proofs.Ytibagcgnaceimaa
open Go.ChangeShapes Go.WideShapes Go.ChangeAt Go.RowKit
set_option linter.unusedVariables false

theorem add_none (b i j : Nat) : (⟨b, i, none⟩ : Addr).add j = ⟨b, i + j, none⟩ := by unfold Addr.add; split <;> simp_all

theorem src_mark (w : World) (vs : List Value) (t : TypeId) (fr : Nat × Nat) (n c : Nat) : SrcAt (w.alloc (.cells vs.toArray t fr)) (some ⟨w.heap.size, 0, none⟩) n c vs :=
  .inr ⟨_, rfl, fun j u hu => by
    rw [add_none, Nat.zero_add, World.cell?_alloc_mark]
    simpa using hu⟩

set_option maxRecDepth 100000 in
theorem known_true (w : World) : Calls Try.prog 9 #[] w fun e w' => e = .returned (.bool true) ∧ Below w.heap.size w w' := by
  have kc := fun (w : World) (C : Array Value) (n c : Nat) => Lib.run_convert_bytes_const (P := Try.prog) w 29 5 C n c Try.underlying29 Try.underlying5
  go_enter Try.func9, Try.ntmps9
  go_wp2_with fail
  refine (newP _ 2 (by omega) (by omega)).mono ?_
  rintro e w1 ⟨rfl, hn, hb⟩
  have HM : Hid (Mine w w1 _ w.heap.size (netP 2 0) []) := Lib.hid ⟨hn, hb, fun b hb => by omega⟩
  clear hn hb
  go_wp2_with fail
  have HM1 := Lib.hid (HM.out.still ((Below.refl _ _).alloc (Nat.le_refl _) (.cells #[.int .u8 97] 5 (1, 2))))
  refine (sendY HM1.out.net ⟨1, 2, [97]⟩ _ 1 (src_mark w1 [.int .u8 97] 5 (1, 2) 1 1) (by omega) (by omega) rfl).mono ?_
  rintro e w2 ⟨rfl, F2, hn, hc⟩
  have HM2 := Lib.hid (HM1.out.step hn hc)
  clear hn hc HM HM1
  go_wp2_with fail
  have HM3 := Lib.hid (HM2.out.still ((Below.refl _ _).alloc (Nat.le_refl _) (.cells #[.int .u8 98] 5 (1, 2))))
  refine (sendY HM3.out.net ⟨2, 1, [98]⟩ _ 1 (src_mark w2 [.int .u8 98] 5 (1, 2) 1 1) (by omega) (by omega) rfl).mono ?_
  rintro e w3 ⟨rfl, F3, hn, hc⟩
  have HM4 := Lib.hid (HM3.out.step hn hc)
  clear hn hc HM2 HM3
  go_wp2_with fail
  refine (sendN HM4.out.net 0 0 none 0 0 (by simp) (by omega) rfl).mono ?_
  rintro e w4 ⟨rfl, hn, hc⟩
  have HM5 := Lib.hid (HM4.out.step hn hc)
  clear hn hc HM4
  go_wp2_with fail
  refine (lenP _ _ _ 2 _ _ HM5.out.net).mono ?_
  rintro e w5 ⟨rfl, rfl⟩
  go_wp2_with fail
  refine (lostP _ _ _ 2 _ _ HM5.out.net).mono ?_
  rintro e w5 ⟨rfl, rfl⟩
  go_wp2_with fail
  go_ret
  exact ⟨rfl, HM5.out.below⟩
end Go.Proofs.Ytibagcgnaceimaa
