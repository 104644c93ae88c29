/- A datagram in new memory: twin, Copy (written by netcopy.py). -/
import Derived.Test.YtibagcgnaceimaaG
import Derived.Deep.AppendLies
namespace Go.Proofs.Ytibagcgnaceimaa
open Go.ChangeShapes Go.WideShapes Go.ChangeAt Go.RowKit
set_option linter.unusedVariables false

abbrev u8s (l : List Int) : List Value := l.map (Value.int .u8)

theorem u8s_length (l : List Int) : (u8s l).length = l.length * 1 := by simp [u8s]
theorem u8s_one (l : List Int) : ∀ u ∈ u8s l, u.oneCell' = true := by
  intro u hu
  obtain ⟨n, _, rfl⟩ := List.mem_map.1 hu
  rfl

theorem owns_slice {w : World} {base : Nat} {e : TypeId} {size : Nat} {v : Value} {n : Nat} {xs : List Value} (h : w.ownsRow base e size v n xs) : ∃ ao c, v = .slice ao n c ∧ n ≤ c := by
  rcases h.2 with ⟨rfl, rfl⟩ | ⟨g, cap, cur, rfl, _, _, hn, _⟩
  · exact ⟨none, 0, rfl, Nat.le_refl _⟩
  · exact ⟨_, _, rfl, hn⟩

theorem owns_weaken {w : World} {base base' : Nat} {e : TypeId} {size : Nat} {v : Value} {n : Nat} {xs : List Value} (h : w.ownsRow base e size v n xs) (hb : base' ≤ base) : w.ownsRow base' e size v n xs :=
  ⟨h.1, h.2.imp_right fun ⟨g, cap, cur, hv, hg, r⟩ => ⟨g, cap, cur, hv, Nat.le_trans hb hg, r⟩⟩

theorem grown_set (w : World) (b j : Nat) (u : Value) : w.grownBy (w.setCell ⟨b, j, none⟩ u) (some b) :=
  ⟨rfl, rfl, rfl, by simp, fun k hk hne => Below.heap_setCell _ _ _ _ (fun e => hne (by rw [e]))⟩

theorem Try.info5 : (Try.prog.info? 5).map (fun i => (i.zero, i.size, i.bytes)) = some (some (.int .u8 0), 1, 1) := by kernel_rfl
theorem Try.info31 : (Try.prog.info? 31).map (fun i => (i.zero, i.size, i.bytes)) = some (some (.agg #[.int .i64 0, .int .i64 0, .slice none 0 0]), 3, 40) := by kernel_rfl

theorem SrcAt.below {w w' : World} {ao : Option Addr} {m c : Nat} {news : List Value} (h : SrcAt w ao m c news) (hb : Below w.heap.size w w') : SrcAt w' ao m c news := by
  rcases h with h | ⟨ad, h1, h2⟩
  · exact .inl h
  · exact .inr ⟨ad, h1, fun j u hu => (hb.cell (World.block_lt_of_cell? _ _ (h2 j u hu))).trans (h2 j u hu)⟩

set_option maxRecDepth 100000 in
theorem twin_any (fr to : Int) (ao : Option Addr) (cap : Nat) (bs : List Int) (w : World) (hs : SrcAt w ao bs.length cap (u8s bs)) (hl : (bs.length : Int) ≤ 140737488355328) :
    Calls Try.prog 25 #[.agg #[.int .i64 fr, .int .i64 to, .slice ao bs.length cap]] w fun e w' => ∃ v', e = .returned (.agg #[.int .i64 fr, .int .i64 to, v']) ∧ w'.ownsRow w.heap.size 5 1 v' bs.length (u8s bs) ∧ Below w.heap.size w w' := by
  obtain ⟨j0, hj, hy0, hy1, hy2⟩ := info_parts Try.info5
  have HS := Lib.hid hs
  clear hs
  go_enter Try.func25, Try.ntmps25
  go_wp2_with fail
  refine wp_region_held_drew (S := fun w' => w'.cell? ⟨w.heap.size, 0, none⟩ = some (.int .i64 fr) ∧ w'.cell? ⟨w.heap.size, 1, none⟩ = some (.int .i64 to) ∧ w'.cell? ⟨w.heap.size, 2, none⟩ = some (.slice ao bs.length cap)) (by kernel_rfl) ⟨by go_simp, by go_simp, by go_simp⟩ (fun hHeld => ?_)
  refine held_yes 0 rfl (by kernel_rfl) (by kernel_rfl) (by kernel_rfl) (fun _ _ _ _ h => h) (by rfl) (by assumption) ?_
  apply Exists.intro
  refine ⟨fun wq hSw => ?_, ?_⟩
  · (try dsimp only at hSw); go_simp; (try with_reducible rfl)
  try simp only [Act.put, List.setIfInBounds_toArray, List.set_cons_zero, List.set_cons_succ]
  refine held_yes 1 rfl (by kernel_rfl) (by kernel_rfl) (by kernel_rfl) (fun _ _ _ _ h => h) (by rfl) (by assumption) ?_
  apply Exists.intro
  refine ⟨fun wq hSw => ?_, ?_⟩
  · (try dsimp only at hSw); go_simp; (try with_reducible rfl)
  try simp only [Act.put, List.setIfInBounds_toArray, List.set_cons_zero, List.set_cons_succ]
  refine held_yes 2 rfl (by kernel_rfl) (by kernel_rfl) (by kernel_rfl) (fun _ _ _ _ h => h) (by rfl) (by assumption) ?_
  apply Exists.intro
  refine ⟨fun wq hSw => ?_, ?_⟩
  · (try dsimp only at hSw); go_simp; (try with_reducible rfl)
  try simp only [Act.put, List.setIfInBounds_toArray, List.set_cons_zero, List.set_cons_succ]
  refine held_yes 3 rfl (by kernel_rfl) (by kernel_rfl) (by kernel_rfl) (fun _ _ _ _ h => h) (by rfl) (by assumption) ?_
  apply Exists.intro
  refine ⟨fun wq hSw => ?_, ?_⟩
  · (try dsimp only at hSw); go_simp; (try with_reducible rfl)
  try simp only [Act.put, List.setIfInBounds_toArray, List.set_cons_zero, List.set_cons_succ]
  refine held_yes 5 rfl (by kernel_rfl) (by kernel_rfl) (by kernel_rfl) (fun _ _ _ _ h => h) (by rfl) (by assumption) ?_
  apply Exists.intro
  refine ⟨fun wq hSw => ?_, ?_⟩
  · (try dsimp only at hSw); go_simp; (try with_reducible rfl)
  try simp only [Act.put, List.setIfInBounds_toArray, List.set_cons_zero, List.set_cons_succ]
  refine held_yes 6 rfl (by kernel_rfl) (by kernel_rfl) (by kernel_rfl) (fun _ _ _ _ h => h) (by rfl) (by assumption) ?_
  apply Exists.intro
  refine ⟨fun wq hSw => ?_, ?_⟩
  · (try dsimp only at hSw); go_simp; (try with_reducible rfl)
  try simp only [Act.put, List.setIfInBounds_toArray, List.set_cons_zero, List.set_cons_succ]
  refine held_one 4 rfl (by kernel_rfl) (fun K hK => ?_)
  go_simp
  refine hK.out _ _ ⟨by go_simp, by go_simp, by go_simp⟩ (fun hHeld => ?_)
  clear hK K
  try simp only [Act.put, List.setIfInBounds_toArray, List.set_cons_zero, List.set_cons_succ]
  refine held_one 7 rfl (by kernel_rfl) (fun K hK => ?_)
  have ho0 := (World.ownsRow_lit (base := w.heap.size + 2) (e := 5) (size := 1) ((w.alloc (.cells #[.int .i64 fr, .int .i64 to, .slice ao bs.length cap] 31)).alloc (.cells #[.int .i64 0, .int .i64 0, .slice none 0 0] 31)) #[] 0 (by simp) (by decide) rfl).drew
  simp only [World.size_alloc] at ho0
  refine step_append_any (by rfl) (.tmp 7) (.tmp 9) 29 (by rfl) (w.heap.size + 2) 5 j0 (.int .u8 0) 1 1 Try.underlying29 hj hy0 hy1 hy2 rfl (by decide) _ 0 [] (by rfl) ho0 ao bs.length cap (u8s bs) (by rfl) (u8s_length bs) (HS.out.below ((((Below.refl _ _).alloc (Nat.le_refl _) _).alloc (by simp) _).alloc (by simp; omega) _).drew) (u8s_one bs) (by unfold maxLen; omega) (by omega) (by simp) ?_
  intro v' w1 hown hgr _
  rw [Nat.zero_add, List.nil_append] at hown
  obtain ⟨ao1, c1, rfl, _⟩ := owns_slice hown
  have hz1 := hgr.size
  simp only [World.size_drew, World.size_alloc] at hz1
  have hc := fun (a : Addr) (h : a.block < w.heap.size + 2) => hgr.cell_far a (by simp; omega) (by simp [Value.ownBlock]; omega)
  have hf := fun (a : Addr) (h : a.block < w.heap.size + 2) => hgr.frozen_far a (by simp; omega) (by simp [Value.ownBlock]; omega)
  have x0 : w1.cell? ⟨w.heap.size, 0, none⟩ = some (.int .i64 fr) := (hc _ (by simp)).trans (by go_simp)
  have x1 : w1.cell? ⟨w.heap.size, 1, none⟩ = some (.int .i64 to) := (hc _ (by simp)).trans (by go_simp)
  have x2 : w1.cell? ⟨w.heap.size, 2, none⟩ = some (.slice ao bs.length cap) := (hc _ (by simp)).trans (by go_simp)
  have k0 : w1.cell? ⟨w.heap.size + 1, 0, none⟩ = some (.int .i64 0) := (hc _ (by simp)).trans (by go_simp)
  have k1 : w1.cell? ⟨w.heap.size + 1, 1, none⟩ = some (.int .i64 0) := (hc _ (by simp)).trans (by go_simp)
  have k2 : w1.cell? ⟨w.heap.size + 1, 2, none⟩ = some (.slice none 0 0) := (hc _ (by simp)).trans (by go_simp)
  have f0 : w1.frozen? ⟨w.heap.size + 1, 0, none⟩ = false := (hf _ (by simp)).trans (by go_simp)
  have f1 : w1.frozen? ⟨w.heap.size + 1, 1, none⟩ = false := (hf _ (by simp)).trans (by go_simp)
  have f2 : w1.frozen? ⟨w.heap.size + 1, 2, none⟩ = false := (hf _ (by simp)).trans (by go_simp)
  have hb1 : Below w.heap.size w w1 := (((((Below.refl _ _).alloc (Nat.le_refl _) _).alloc (by simp) _).alloc (by simp; omega) _).drew).grown hgr (by simp; omega) (by intro k hk; simp [Value.ownBlock] at hk; omega)
  have HO := Lib.hid hown
  have HB := Lib.hid hb1
  clear hown hb1 hc hf hgr
  refine hK.out _ _ ⟨x0, x1, x2⟩ (fun hHeld => ?_)
  clear hK K
  try simp only [Act.put, List.setIfInBounds_toArray, List.set_cons_zero, List.set_cons_succ]
  refine held_yes 8 rfl (by kernel_rfl) (by kernel_rfl) (by kernel_rfl) (fun _ _ _ _ h => h) (by rfl) (by assumption) ?_
  apply Exists.intro
  refine ⟨fun wq hSw => ?_, ?_⟩
  · (try dsimp only at hSw); go_simp; (try with_reducible rfl)
  try simp only [Act.put, List.setIfInBounds_toArray, List.set_cons_zero, List.set_cons_succ]
  refine held_one 9 rfl (by kernel_rfl) (fun K hK => ?_)
  go_simp
  refine hK.out _ _ ⟨by go_simp, by go_simp, by go_simp⟩ (fun hHeld => ?_)
  clear hK K
  try simp only [Act.put, List.setIfInBounds_toArray, List.set_cons_zero, List.set_cons_succ]
  refine wpAnyH_done (by kernel_rfl) ?_ _
  go_wp2_with fail
  have r0 : (((w1.setCell ⟨w.heap.size + 1, 0, none⟩ (.int .i64 fr)).setCell ⟨w.heap.size + 1, 1, none⟩ (.int .i64 to)).setCell ⟨w.heap.size + 1, 2, none⟩ (.slice ao1 bs.length c1)).cell? ⟨w.heap.size + 1, 0, none⟩ = some (.int .i64 fr) := by go_simp
  have r1 : (((w1.setCell ⟨w.heap.size + 1, 0, none⟩ (.int .i64 fr)).setCell ⟨w.heap.size + 1, 1, none⟩ (.int .i64 to)).setCell ⟨w.heap.size + 1, 2, none⟩ (.slice ao1 bs.length c1)).cell? ⟨w.heap.size + 1, 1, none⟩ = some (.int .i64 to) := by go_simp
  have r2 : (((w1.setCell ⟨w.heap.size + 1, 0, none⟩ (.int .i64 fr)).setCell ⟨w.heap.size + 1, 1, none⟩ (.int .i64 to)).setCell ⟨w.heap.size + 1, 2, none⟩ (.slice ao1 bs.length c1)).cell? ⟨w.heap.size + 1, 2, none⟩ = some (.slice ao1 bs.length c1) := by go_simp
  have hne : ∀ k, (Value.slice ao1 bs.length c1).ownBlock = some k → w.heap.size + 2 ≤ k := fun k hk => (HO.out.lt k hk).1
  refine bodyPost_ret (v := .agg #[.int .i64 fr, .int .i64 to, .slice ao1 bs.length c1]) (by simp [results, Try.results25, go_sem, r0, r1, r2]) rfl ⟨_, rfl, ?_, ?_⟩
  · exact owns_weaken (((HO.out.kept (grown_set _ _ _ _) (.inr fun e => by have := hne _ e; omega)).kept (grown_set _ _ _ _) (.inr fun e => by have := hne _ e; omega)).kept (grown_set _ _ _ _) (.inr fun e => by have := hne _ e; omega)) (by omega)
  · exact ((HB.out.setCell (by simp) _).setCell (by simp) _).setCell (by simp) _

set_option maxRecDepth 100000 in
theorem copy_any (fr to : Int) (ao : Option Addr) (cap : Nat) (bs : List Int) (w : World) (hs : SrcAt w ao bs.length cap (u8s bs)) (hl : (bs.length : Int) ≤ 140737488355328) :
    Calls Try.prog 12 #[.agg #[.int .i64 fr, .int .i64 to, .slice ao bs.length cap]] w fun e w' => ∃ v', e = .returned (.agg #[.int .i64 fr, .int .i64 to, v']) ∧ w'.ownsRow w.heap.size 5 1 v' bs.length (u8s bs) ∧ Below w.heap.size w w' := by
  obtain ⟨j0, hj, hy0, hy1, hy2⟩ := info_parts Try.info5
  have HS := Lib.hid hs
  clear hs
  go_enter Try.func12, Try.ntmps12
  go_wp2_with fail
  refine wp_region_held_drew (S := fun w' => w'.cell? ⟨w.heap.size, 0, none⟩ = some (.int .i64 fr) ∧ w'.cell? ⟨w.heap.size, 1, none⟩ = some (.int .i64 to) ∧ w'.cell? ⟨w.heap.size, 2, none⟩ = some (.slice ao bs.length cap)) (by kernel_rfl) ⟨by go_simp, by go_simp, by go_simp⟩ (fun hHeld => ?_)
  refine held_yes 0 rfl (by kernel_rfl) (by kernel_rfl) (by kernel_rfl) (fun _ _ _ _ h => h) (by rfl) (by assumption) ?_
  apply Exists.intro
  refine ⟨fun wq hSw => ?_, ?_⟩
  · (try dsimp only at hSw); go_simp; (try with_reducible rfl)
  try simp only [Act.put, List.setIfInBounds_toArray, List.set_cons_zero, List.set_cons_succ]
  refine held_yes 1 rfl (by kernel_rfl) (by kernel_rfl) (by kernel_rfl) (fun _ _ _ _ h => h) (by rfl) (by assumption) ?_
  apply Exists.intro
  refine ⟨fun wq hSw => ?_, ?_⟩
  · (try dsimp only at hSw); go_simp; (try with_reducible rfl)
  try simp only [Act.put, List.setIfInBounds_toArray, List.set_cons_zero, List.set_cons_succ]
  refine held_yes 2 rfl (by kernel_rfl) (by kernel_rfl) (by kernel_rfl) (fun _ _ _ _ h => h) (by rfl) (by assumption) ?_
  apply Exists.intro
  refine ⟨fun wq hSw => ?_, ?_⟩
  · (try dsimp only at hSw); go_simp; (try with_reducible rfl)
  try simp only [Act.put, List.setIfInBounds_toArray, List.set_cons_zero, List.set_cons_succ]
  refine held_yes 3 rfl (by kernel_rfl) (by kernel_rfl) (by kernel_rfl) (fun _ _ _ _ h => h) (by rfl) (by assumption) ?_
  apply Exists.intro
  refine ⟨fun wq hSw => ?_, ?_⟩
  · (try dsimp only at hSw); go_simp; (try with_reducible rfl)
  try simp only [Act.put, List.setIfInBounds_toArray, List.set_cons_zero, List.set_cons_succ]
  refine held_yes 5 rfl (by kernel_rfl) (by kernel_rfl) (by kernel_rfl) (fun _ _ _ _ h => h) (by rfl) (by assumption) ?_
  apply Exists.intro
  refine ⟨fun wq hSw => ?_, ?_⟩
  · (try dsimp only at hSw); go_simp; (try with_reducible rfl)
  try simp only [Act.put, List.setIfInBounds_toArray, List.set_cons_zero, List.set_cons_succ]
  refine held_yes 6 rfl (by kernel_rfl) (by kernel_rfl) (by kernel_rfl) (fun _ _ _ _ h => h) (by rfl) (by assumption) ?_
  apply Exists.intro
  refine ⟨fun wq hSw => ?_, ?_⟩
  · (try dsimp only at hSw); go_simp; (try with_reducible rfl)
  try simp only [Act.put, List.setIfInBounds_toArray, List.set_cons_zero, List.set_cons_succ]
  refine held_one 4 rfl (by kernel_rfl) (fun K hK => ?_)
  go_simp
  refine hK.out _ _ ⟨by go_simp, by go_simp, by go_simp⟩ (fun hHeld => ?_)
  clear hK K
  try simp only [Act.put, List.setIfInBounds_toArray, List.set_cons_zero, List.set_cons_succ]
  refine held_one 7 rfl (by kernel_rfl) (fun K hK => ?_)
  have ho0 := (World.ownsRow_lit (base := w.heap.size + 2) (e := 5) (size := 1) ((w.alloc (.cells #[.int .i64 fr, .int .i64 to, .slice ao bs.length cap] 31)).alloc (.cells #[.int .i64 0, .int .i64 0, .slice none 0 0] 31)) #[] 0 (by simp) (by decide) rfl).drew
  simp only [World.size_alloc] at ho0
  refine step_append_any (by rfl) (.tmp 7) (.tmp 9) 29 (by rfl) (w.heap.size + 2) 5 j0 (.int .u8 0) 1 1 Try.underlying29 hj hy0 hy1 hy2 rfl (by decide) _ 0 [] (by rfl) ho0 ao bs.length cap (u8s bs) (by rfl) (u8s_length bs) (HS.out.below ((((Below.refl _ _).alloc (Nat.le_refl _) _).alloc (by simp) _).alloc (by simp; omega) _).drew) (u8s_one bs) (by unfold maxLen; omega) (by omega) (by simp) ?_
  intro v' w1 hown hgr _
  rw [Nat.zero_add, List.nil_append] at hown
  obtain ⟨ao1, c1, rfl, _⟩ := owns_slice hown
  have hz1 := hgr.size
  simp only [World.size_drew, World.size_alloc] at hz1
  have hc := fun (a : Addr) (h : a.block < w.heap.size + 2) => hgr.cell_far a (by simp; omega) (by simp [Value.ownBlock]; omega)
  have hf := fun (a : Addr) (h : a.block < w.heap.size + 2) => hgr.frozen_far a (by simp; omega) (by simp [Value.ownBlock]; omega)
  have x0 : w1.cell? ⟨w.heap.size, 0, none⟩ = some (.int .i64 fr) := (hc _ (by simp)).trans (by go_simp)
  have x1 : w1.cell? ⟨w.heap.size, 1, none⟩ = some (.int .i64 to) := (hc _ (by simp)).trans (by go_simp)
  have x2 : w1.cell? ⟨w.heap.size, 2, none⟩ = some (.slice ao bs.length cap) := (hc _ (by simp)).trans (by go_simp)
  have k0 : w1.cell? ⟨w.heap.size + 1, 0, none⟩ = some (.int .i64 0) := (hc _ (by simp)).trans (by go_simp)
  have k1 : w1.cell? ⟨w.heap.size + 1, 1, none⟩ = some (.int .i64 0) := (hc _ (by simp)).trans (by go_simp)
  have k2 : w1.cell? ⟨w.heap.size + 1, 2, none⟩ = some (.slice none 0 0) := (hc _ (by simp)).trans (by go_simp)
  have f0 : w1.frozen? ⟨w.heap.size + 1, 0, none⟩ = false := (hf _ (by simp)).trans (by go_simp)
  have f1 : w1.frozen? ⟨w.heap.size + 1, 1, none⟩ = false := (hf _ (by simp)).trans (by go_simp)
  have f2 : w1.frozen? ⟨w.heap.size + 1, 2, none⟩ = false := (hf _ (by simp)).trans (by go_simp)
  have hb1 : Below w.heap.size w w1 := (((((Below.refl _ _).alloc (Nat.le_refl _) _).alloc (by simp) _).alloc (by simp; omega) _).drew).grown hgr (by simp; omega) (by intro k hk; simp [Value.ownBlock] at hk; omega)
  have HO := Lib.hid hown
  have HB := Lib.hid hb1
  clear hown hb1 hc hf hgr
  refine hK.out _ _ ⟨x0, x1, x2⟩ (fun hHeld => ?_)
  clear hK K
  try simp only [Act.put, List.setIfInBounds_toArray, List.set_cons_zero, List.set_cons_succ]
  refine held_yes 8 rfl (by kernel_rfl) (by kernel_rfl) (by kernel_rfl) (fun _ _ _ _ h => h) (by rfl) (by assumption) ?_
  apply Exists.intro
  refine ⟨fun wq hSw => ?_, ?_⟩
  · (try dsimp only at hSw); go_simp; (try with_reducible rfl)
  try simp only [Act.put, List.setIfInBounds_toArray, List.set_cons_zero, List.set_cons_succ]
  refine held_one 9 rfl (by kernel_rfl) (fun K hK => ?_)
  go_simp
  refine hK.out _ _ ⟨by go_simp, by go_simp, by go_simp⟩ (fun hHeld => ?_)
  clear hK K
  try simp only [Act.put, List.setIfInBounds_toArray, List.set_cons_zero, List.set_cons_succ]
  refine wpAnyH_done (by kernel_rfl) ?_ _
  go_wp2_with fail
  have r0 : (((w1.setCell ⟨w.heap.size + 1, 0, none⟩ (.int .i64 fr)).setCell ⟨w.heap.size + 1, 1, none⟩ (.int .i64 to)).setCell ⟨w.heap.size + 1, 2, none⟩ (.slice ao1 bs.length c1)).cell? ⟨w.heap.size + 1, 0, none⟩ = some (.int .i64 fr) := by go_simp
  have r1 : (((w1.setCell ⟨w.heap.size + 1, 0, none⟩ (.int .i64 fr)).setCell ⟨w.heap.size + 1, 1, none⟩ (.int .i64 to)).setCell ⟨w.heap.size + 1, 2, none⟩ (.slice ao1 bs.length c1)).cell? ⟨w.heap.size + 1, 1, none⟩ = some (.int .i64 to) := by go_simp
  have r2 : (((w1.setCell ⟨w.heap.size + 1, 0, none⟩ (.int .i64 fr)).setCell ⟨w.heap.size + 1, 1, none⟩ (.int .i64 to)).setCell ⟨w.heap.size + 1, 2, none⟩ (.slice ao1 bs.length c1)).cell? ⟨w.heap.size + 1, 2, none⟩ = some (.slice ao1 bs.length c1) := by go_simp
  have hne : ∀ k, (Value.slice ao1 bs.length c1).ownBlock = some k → w.heap.size + 2 ≤ k := fun k hk => (HO.out.lt k hk).1
  refine bodyPost_ret (v := .agg #[.int .i64 fr, .int .i64 to, .slice ao1 bs.length c1]) (by simp [results, Try.results12, go_sem, r0, r1, r2]) rfl ⟨_, rfl, ?_, ?_⟩
  · exact owns_weaken (((HO.out.kept (grown_set _ _ _ _) (.inr fun e => by have := hne _ e; omega)).kept (grown_set _ _ _ _) (.inr fun e => by have := hne _ e; omega)).kept (grown_set _ _ _ _) (.inr fun e => by have := hne _ e; omega)) (by omega)
  · exact ((HB.out.setCell (by simp) _).setCell (by simp) _).setCell (by simp) _
end Go.Proofs.Ytibagcgnaceimaa
