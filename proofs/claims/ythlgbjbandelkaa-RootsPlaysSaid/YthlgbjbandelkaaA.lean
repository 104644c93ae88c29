/- How the slots lie in memory; the contracts of there, Has, ID, Get. -/
import Derived.Test.YthlgbjbandelkaaK
namespace Go.Proofs.Ythlgbjbandelkaa
open Go.ChangeShapes Go.WideShapes Go.ChangeAt Go.RowKit
set_option linter.unusedVariables false

/-- The blocks of one structure of slots, out of [lo, hi): the pointer's own, the rows', each row's. -/
structure Lay (w : World) (p M S : Nat) (V : Nat → Nat → Int × Int) (lo hi rb cap : Nat) (bs : Nat → Nat) : Prop where
  size : hi ≤ w.heap.size
  hp : lo ≤ p ∧ p < hi
  hrb : lo ≤ rb ∧ rb < hi
  ne : p ≠ rb
  hbs : ∀ m, m < M → lo ≤ bs m ∧ bs m < hi ∧ bs m ≠ p ∧ bs m ≠ rb
  inj : ∀ m m', m < M → m' < M → bs m = bs m' → m = m'
  head : w.cell? ⟨p, 0, none⟩ = some (.slice (some ⟨rb, 0, none⟩) M cap)
  row : ∀ m, m < M → w.cell? ⟨rb, m, none⟩ = some (.slice (some ⟨bs m, 0, none⟩) S S)
  node : ∀ m s, m < M → s < S → w.cell? ⟨bs m, s * 2, none⟩ = some (.int .i64 (V m s).1)
  serial : ∀ m s, m < M → s < S → w.cell? ⟨bs m, s * 2 + 1, none⟩ = some (.int .u64 (V m s).2)
  free : ∀ m j, m < M → w.frozen? ⟨bs m, j, none⟩ = false

theorem Lay.keep {w w' : World} {p M S : Nat} {V : Nat → Nat → Int × Int} {lo hi rb cap : Nat} {bs : Nat → Nat} (h : Lay w p M S V lo hi rb cap bs) (hz : w.heap.size ≤ w'.heap.size) (hk : ∀ k, lo ≤ k → k < hi → w'.heap[k]? = w.heap[k]?) : Lay w' p M S V lo hi rb cap bs where
  size := Nat.le_trans h.size hz
  hp := h.hp
  hrb := h.hrb
  ne := h.ne
  hbs := h.hbs
  inj := h.inj
  head := (World.cell?_of_block (w := w) (hk p h.hp.1 h.hp.2)).trans h.head
  row := fun m hm => (World.cell?_of_block (w := w) (hk rb h.hrb.1 h.hrb.2)).trans (h.row m hm)
  node := fun m s hm hs => (World.cell?_of_block (w := w) (hk (bs m) (h.hbs m hm).1 (h.hbs m hm).2.1)).trans (h.node m s hm hs)
  serial := fun m s hm hs => (World.cell?_of_block (w := w) (hk (bs m) (h.hbs m hm).1 (h.hbs m hm).2.1)).trans (h.serial m s hm hs)
  free := fun m j hm => (World.frozen?_of_block (w := w) (hk (bs m) (h.hbs m hm).1 (h.hbs m hm).2.1)).trans (h.free m j hm)

theorem Lay.below {w w' : World} {B p M S : Nat} {V : Nat → Nat → Int × Int} {lo hi rb cap : Nat} {bs : Nat → Nat} (h : Lay w p M S V lo hi rb cap bs) (hb : Below B w w') (hB : hi ≤ B) : Lay w' p M S V lo hi rb cap bs :=
  h.keep hb.size fun k _ hk => hb.block k (by omega)

theorem Lay.alloc {w : World} {p M S : Nat} {V : Nat → Nat → Int × Int} {lo hi rb cap : Nat} {bs : Nat → Nat} (h : Lay w p M S V lo hi rb cap bs) (o : Obj) : Lay (w.alloc o) p M S V lo hi rb cap bs :=
  h.below ((Below.refl _ _).alloc (Nat.le_refl _) o) h.size

theorem Lay.p_lt {w : World} {p M S : Nat} {V : Nat → Nat → Int × Int} {lo hi rb cap : Nat} {bs : Nat → Nat} (h : Lay w p M S V lo hi rb cap bs) : p < w.heap.size := Nat.lt_of_lt_of_le h.hp.2 h.size
theorem Lay.rb_lt {w : World} {p M S : Nat} {V : Nat → Nat → Int × Int} {lo hi rb cap : Nat} {bs : Nat → Nat} (h : Lay w p M S V lo hi rb cap bs) : rb < w.heap.size := Nat.lt_of_lt_of_le h.hrb.2 h.size
theorem Lay.bs_lt {w : World} {p M S : Nat} {V : Nat → Nat → Int × Int} {lo hi rb cap : Nat} {bs : Nat → Nat} (h : Lay w p M S V lo hi rb cap bs) (m : Nat) (hm : m < M) : bs m < w.heap.size := Nat.lt_of_lt_of_le (h.hbs m hm).2.1 h.size

section
variable (p M S : Nat) (V : Nat → Nat → Int × Int) (lo hi rb cap : Nat) (bs : Nat → Nat) (w : World)

theorem there_yes (h : Lay w p M S V lo hi rb cap bs) (hM : M ≤ 4) (hS : S ≤ 8) (m s : Nat) (hm : m < M) (hs : s < S) :
    Calls Try.prog 22 #[.pointer (some ⟨p, 0, none⟩), .int .i64 m, .int .i64 s] w fun e w' => e = .returned (.bool true) ∧ w = w' := by
  have h1 := h.head
  have h2 := h.row m hm
  clear h
  go_enter Try.func22, Try.ntmps22
  go_wp2
  go_ret
  exact ⟨rfl, rfl⟩

theorem there_no (h : Lay w p M S V lo hi rb cap bs) (hM : M ≤ 4) (hS : S ≤ 8) (m s : Int) (hno : ¬ (0 ≤ m ∧ m < M ∧ 0 ≤ s ∧ s < S)) :
    Calls Try.prog 22 #[.pointer (some ⟨p, 0, none⟩), .int .i64 m, .int .i64 s] w fun e w' => e = .returned (.bool false) ∧ w = w' := by
  by_cases g1 : 0 ≤ m
  · by_cases g2 : m < M
    · obtain ⟨m, rfl⟩ := Int.eq_ofNat_of_zero_le g1
      have h1 := h.head
      have h2 := h.row m (by omega)
      by_cases g3 : 0 ≤ s
      · have g4 : (S : Int) ≤ s := by omega
        clear h hno
        go_enter Try.func22, Try.ntmps22
        go_wp2
        go_ret
        exact ⟨ret_bool (decide_eq_false (by omega)), rfl⟩
      · clear h hno
        go_enter Try.func22, Try.ntmps22
        go_wp2
        go_ret
        exact ⟨rfl, rfl⟩
    · have h1 := h.head
      clear h hno
      go_enter Try.func22, Try.ntmps22
      go_wp2
      go_ret
      exact ⟨rfl, rfl⟩
  · clear h hno
    go_enter Try.func22, Try.ntmps22
    go_wp2
    go_ret
    exact ⟨rfl, rfl⟩

theorem has_yes (h : Lay w p M S V lo hi rb cap bs) (hM : M ≤ 4) (hS : S ≤ 8) (m s : Nat) (hm : m < M) (hs : s < S) :
    Calls Try.prog 11 #[.pointer (some ⟨p, 0, none⟩), .int .i64 m, .int .i64 s] w fun e w' => e = .returned (.bool true) ∧ w = w' := by
  have h1 := h.head
  have h2 := h.row m hm
  clear h
  go_enter Try.func11, Try.ntmps11
  go_wp2
  go_ret
  exact ⟨rfl, rfl⟩

theorem has_no (h : Lay w p M S V lo hi rb cap bs) (hM : M ≤ 4) (hS : S ≤ 8) (m s : Int) (hno : ¬ (0 ≤ m ∧ m < M ∧ 0 ≤ s ∧ s < S)) :
    Calls Try.prog 11 #[.pointer (some ⟨p, 0, none⟩), .int .i64 m, .int .i64 s] w fun e w' => e = .returned (.bool false) ∧ w = w' := by
  by_cases g1 : 0 ≤ m
  · by_cases g2 : m < M
    · obtain ⟨m, rfl⟩ := Int.eq_ofNat_of_zero_le g1
      have h1 := h.head
      have h2 := h.row m (by omega)
      by_cases g3 : 0 ≤ s
      · have g4 : (S : Int) ≤ s := by omega
        clear h hno
        go_enter Try.func11, Try.ntmps11
        go_wp2
        go_ret
        exact ⟨ret_bool (decide_eq_false (by omega)), rfl⟩
      · clear h hno
        go_enter Try.func11, Try.ntmps11
        go_wp2
        go_ret
        exact ⟨rfl, rfl⟩
    · have h1 := h.head
      clear h hno
      go_enter Try.func11, Try.ntmps11
      go_wp2
      go_ret
      exact ⟨rfl, rfl⟩
  · clear h hno
    go_enter Try.func11, Try.ntmps11
    go_wp2
    go_ret
    exact ⟨rfl, rfl⟩

theorem get_yes (h : Lay w p M S V lo hi rb cap bs) (hM : M ≤ 4) (hS : S ≤ 8) (m s : Nat) (hm : m < M) (hs : s < S) :
    Calls Try.prog 14 #[.pointer (some ⟨p, 0, none⟩), .int .i64 m, .int .i64 s] w fun e w' => e = .returned (.tuple #[.agg #[.int .i64 (V m s).1, .int .u64 (V m s).2], .bool true]) ∧ w.alloc (.cells #[.int .i64 (V m s).1, .int .u64 (V m s).2] 32) = w' := by
  have H := Lib.hid h
  have h1 := h.head
  have h2 := h.row m hm
  have h3 := h.node m s hm hs
  have h4 := h.serial m s hm hs
  have l1 := h.p_lt
  have l2 := h.rb_lt
  have l3 := h.bs_lt m hm
  clear h
  generalize V m s = v at h3 h4 ⊢
  obtain ⟨n, r⟩ := v
  simp only at h3 h4 ⊢
  go_enter Try.func14, Try.ntmps14
  go_wp2_with fail
  refine (there_yes _ _ _ _ _ _ _ _ _ _ (H.out.alloc _) hM hS m s hm hs).mono ?_
  rintro e w' ⟨rfl, rfl⟩
  go_wp2_with fail
  exact bodyPost_ret (v := .tuple #[.agg #[.int .i64 n, .int .u64 r], .bool true]) (by simp [results, Try.results14, go_sem]) rfl ⟨rfl, rfl⟩

theorem get_no (h : Lay w p M S V lo hi rb cap bs) (hM : M ≤ 4) (hS : S ≤ 8) (m s : Int) (hno : ¬ (0 ≤ m ∧ m < M ∧ 0 ≤ s ∧ s < S)) :
    Calls Try.prog 14 #[.pointer (some ⟨p, 0, none⟩), .int .i64 m, .int .i64 s] w fun e w' => e = .returned (.tuple #[.agg #[.int .i64 0, .int .u64 0], .bool false]) ∧ w.alloc (.cells #[.int .i64 0, .int .u64 0] 32) = w' := by
  have HN := Lib.hid hno
  have H := Lib.hid h
  clear h hno
  go_enter Try.func14, Try.ntmps14
  go_wp2_with fail
  refine (there_no _ _ _ _ _ _ _ _ _ _ (H.out.alloc _) hM hS m s HN.out).mono ?_
  rintro e w' ⟨rfl, rfl⟩
  go_wp2_with fail
  exact bodyPost_ret (v := .tuple #[.agg #[.int .i64 0, .int .u64 0], .bool false]) (by simp [results, Try.results14, go_sem]) rfl ⟨rfl, rfl⟩
end

/-- Is it an ID, or none? -/
def idOk (n r : Int) : Bool := decide ((n = 0 ∧ r = 0) ∨ (1 ≤ n ∧ n ≤ 64 ∧ 1 ≤ r ∧ r ≤ 72057594037927935))

theorem id_any (n r : Int) (w : World) :
    Calls Try.prog 12 #[.agg #[.int .i64 n, .int .u64 r]] w fun e w' => e = .returned (.bool (idOk n r)) ∧ w.alloc (.cells #[.int .i64 n, .int .u64 r] 32) = w' := by
  by_cases h0 : n = 0
  · subst h0
    by_cases h1 : r = 0
    · subst h1
      rw [show idOk 0 0 = true by decide]
      go_enter Try.func12, Try.ntmps12
      go_wp2
      go_ret
      exact ⟨rfl, rfl⟩
    · rw [show idOk 0 r = false by simp [idOk, h1]]
      have e1 : (r == 0) = false := beq_eq_false_iff_ne.2 h1
      clear h1
      go_enter Try.func12, Try.ntmps12
      go_wp2
      go_ret
      exact ⟨rfl, rfl⟩
  · have e0 : (n == 0) = false := beq_eq_false_iff_ne.2 h0
    have hid : idOk n r = decide (1 ≤ n ∧ n ≤ 64 ∧ 1 ≤ r ∧ r ≤ 72057594037927935) := by simp [idOk, h0]
    rw [hid]
    clear hid h0
    by_cases g1 : 1 ≤ n
    · by_cases g2 : n ≤ 64
      · by_cases g3 : 1 ≤ r
        · by_cases g4 : r ≤ 72057594037927935
          all_goals
            go_enter Try.func12, Try.ntmps12
            go_wp2
            go_ret
            exact ⟨ret_bool (by simp [g1, g2, g3, g4]), rfl⟩
        · go_enter Try.func12, Try.ntmps12
          go_wp2
          go_ret
          exact ⟨ret_bool (by simp; omega), rfl⟩
      · go_enter Try.func12, Try.ntmps12
        go_wp2
        go_ret
        exact ⟨ret_bool (by simp; omega), rfl⟩
    · go_enter Try.func12, Try.ntmps12
      go_wp2
      go_ret
      exact ⟨ret_bool (by simp; omega), rfl⟩

end Go.Proofs.Ythlgbjbandelkaa
