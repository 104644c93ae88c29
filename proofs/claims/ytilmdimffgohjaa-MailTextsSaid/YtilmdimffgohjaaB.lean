/- The contracts of a box over type 9: Put, Take, Len, Room, New (written by mailbox.py). -/
import Derived.Test.YtilmdimffgohjaaC
import Derived.Conc.LoneSelect
import Derived.Conc.LoneSelectN
import Derived.KernelRfl
namespace Go.Proofs.Ytilmdimffgohjaa
open Go.ChangeShapes Go.WideShapes Go.ChangeAt Go.RowKit Go.Conc
set_option linter.unusedVariables false
set_option maxRecDepth 100000

theorem put_roomS (x : Value) (w : World) (p c cap : Nat) (buf : List Value) (h : BoxAt w p c cap buf) (hr : buf.length < cap) :
    Calls Try.prog 15 #[.pointer (some ⟨p, 0, none⟩), x] w fun e w' => e = .returned (.bool true) ∧ BoxAt w' p c cap (buf ++ [x]) ∧ w.grownBy w' (some c) := by
  obtain ⟨hp, s, r, hc⟩ := h
  refine calls_of_loneTo fun cs => ?_
  have e : Frame.enter Try.prog 15 #[.pointer (some ⟨p, 0, none⟩), x] .normal = (base 15).at ⟨#[.pointer (some ⟨p, 0, none⟩), x, undef, undef, undef, undef, undef, undef, undef, undef, undef, undef, undef], []⟩ [.code (Try.f15.body.getD .skip)] := by
    simp [Frame.enter, Frame.at, Try.func15, base, Try.f15]
  rw [e]
  refine LoneTo.goes (n := 40) ?_
  simp only [Try.f15, Option.getD_some]
  s_c stepG_seq
  s_reg
  s_op
  s_c stepG_region_end
  s_c stepG_seq
  s_c stepG_seq
  s_reg
  s_op
  s_op
  s_op
  s_op
  s_c stepG_region_end
  s_reg
  s_op
  s_c stepG_region_end
  s_c stepG_seq
  s_reg
  s_stop
  refine LoneTo.step (step_lone_select_send_room (c := c) (cap := cap) (buf := buf.toArray) (s := s) (r := r) (tm := false) (stepG_comm (cases := #[scase c x (.string { data := #[] })]) (blocking := false) (shape := .select) (w' := w) rfl rfl (by decide) (by simp [go_sem, execOp, scase, Act.eval])) hc (by simpa using hr)) ?_
  rw [Frame.finish_at]
  walk_nrm
  refine LoneTo.goes (n := 40) ?_
  s_op
  s_op
  s_c stepG_region_end
  s_c stepG_block
  s_cond true
  s_c stepG_seq
  s_reg
  s_op
  s_c stepG_region_end
  s_c stepG_ret'
  s_stop
  refine LoneTo.done ⟨.returned (.bool true), _, rfl, ⟨rfl, ?_, grown_setChan _ _ _ _ _ _ _⟩, rfl, rfl, rfl, rfl, _, Try.func15, by simp [results, Try.f15, Frame.at]⟩
  exact ⟨cell_setChan hp hc _ _ _ _ _, _, _, by rw [heap_setChan _ _ _ _ _ _ _ _ (heap_lt hc)]⟩

theorem put_fullS (x : Value) (w : World) (p c cap : Nat) (buf : List Value) (h : BoxAt w p c cap buf) (hr : cap ≤ buf.length) :
    Calls Try.prog 15 #[.pointer (some ⟨p, 0, none⟩), x] w fun e w' => e = .returned (.bool false) ∧ w = w' := by
  obtain ⟨hp, s, r, hc⟩ := h
  refine calls_of_loneTo fun cs => ?_
  have e : Frame.enter Try.prog 15 #[.pointer (some ⟨p, 0, none⟩), x] .normal = (base 15).at ⟨#[.pointer (some ⟨p, 0, none⟩), x, undef, undef, undef, undef, undef, undef, undef, undef, undef, undef, undef], []⟩ [.code (Try.f15.body.getD .skip)] := by
    simp [Frame.enter, Frame.at, Try.func15, base, Try.f15]
  rw [e]
  refine LoneTo.goes (n := 40) ?_
  simp only [Try.f15, Option.getD_some]
  s_c stepG_seq
  s_reg
  s_op
  s_c stepG_region_end
  s_c stepG_seq
  s_c stepG_seq
  s_reg
  s_op
  s_op
  s_op
  s_op
  s_c stepG_region_end
  s_reg
  s_op
  s_c stepG_region_end
  s_c stepG_seq
  s_reg
  s_stop
  refine LoneTo.step (step_lone_select_send_full (c := c) (cap := cap) (buf := buf.toArray) (s := s) (r := r) (tm := false) (stepG_comm (cases := #[scase c x (.string { data := #[] })]) (blocking := false) (shape := .select) (w' := w) rfl rfl (by decide) (by simp [go_sem, execOp, scase, Act.eval])) hc (by simpa using hr)) ?_
  rw [Frame.finish_at]
  walk_nrm
  refine LoneTo.goes (n := 40) ?_
  s_op
  s_op
  s_c stepG_region_end
  s_c stepG_block
  s_cond false
  s_c stepG_seq
  s_reg
  s_op
  s_c stepG_region_end
  s_c stepG_ret'
  s_stop
  exact LoneTo.done ⟨.returned (.bool false), _, rfl, ⟨rfl, rfl⟩, rfl, rfl, rfl, rfl, _, Try.func15, by simp [results, Try.f15, Frame.at]⟩

theorem take_someS (x : Value) (rest : List Value) (w : World) (p c cap : Nat) (h : BoxAt w p c cap (x :: rest)) :
    Calls Try.prog 14 #[.pointer (some ⟨p, 0, none⟩)] w fun e w' => e = .returned (.tuple #[x, .bool true]) ∧ BoxAt w' p c cap rest ∧ w.grownBy w' (some c) := by
  obtain ⟨hp, s, r, hc⟩ := h
  refine calls_of_loneTo fun cs => ?_
  have e : Frame.enter Try.prog 14 #[.pointer (some ⟨p, 0, none⟩)] .normal = (base 14).at ⟨#[.pointer (some ⟨p, 0, none⟩), undef, undef, undef, undef, undef, undef, undef, undef, undef, undef, undef, undef, undef, undef, undef], []⟩ [.code (Try.f14.body.getD .skip)] := by
    simp [Frame.enter, Frame.at, Try.func14, base, Try.f14]
  rw [e]
  refine LoneTo.goes (n := 40) ?_
  simp only [Try.f14, Option.getD_some]
  s_c stepG_seq
  s_reg
  s_op
  s_op
  s_c stepG_region_end
  s_c stepG_seq
  s_reg
  s_op
  s_op
  s_op
  s_op
  s_c stepG_region_end
  s_c stepG_seq
  s_reg
  s_stop
  refine LoneTo.step (step_lone_select_recv_buf (c := c) (cap := cap) (buf := (x :: rest).toArray) (closed := false) (s := s) (r := r) (tm := false) (z := .string { data := #[] }) (stepG_comm (cases := #[rcase c (.string { data := #[] })]) (blocking := false) (shape := .select) (w' := w) rfl rfl (by decide) (by simp [go_sem, execOp, rcase, Act.eval])) hc (by simp)) ?_
  rw [Frame.finish_at]
  walk_nrm
  refine LoneTo.goes (n := 40) ?_
  s_op
  s_op
  s_c stepG_region_end
  s_c stepG_block
  s_cond true
  s_c stepG_seq
  s_reg
  s_op
  s_op
  s_c stepG_region_end
  s_c stepG_seq
  s_reg
  s_op
  s_op
  s_op
  s_c stepG_region_end
  s_c stepG_ret'
  s_stop
  refine LoneTo.done ⟨.returned (.tuple #[x, .bool true]), _, rfl, ⟨rfl, ?_, grown_setChan _ _ _ _ _ _ _⟩, rfl, rfl, rfl, rfl, _, Try.func14, by simp [results, Try.f14, Frame.at]⟩
  exact ⟨cell_setChan hp hc _ _ _ _ _, _, _, by rw [heap_setChan _ _ _ _ _ _ _ _ (heap_lt hc)]; first | done | simp⟩

theorem take_noneS (w : World) (p c cap : Nat) (h : BoxAt w p c cap []) :
    Calls Try.prog 14 #[.pointer (some ⟨p, 0, none⟩)] w fun e w' => e = .returned (.tuple #[.string { data := #[] }, .bool false]) ∧ w = w' := by
  obtain ⟨hp, s, r, hc⟩ := h
  refine calls_of_loneTo fun cs => ?_
  have e : Frame.enter Try.prog 14 #[.pointer (some ⟨p, 0, none⟩)] .normal = (base 14).at ⟨#[.pointer (some ⟨p, 0, none⟩), undef, undef, undef, undef, undef, undef, undef, undef, undef, undef, undef, undef, undef, undef, undef], []⟩ [.code (Try.f14.body.getD .skip)] := by
    simp [Frame.enter, Frame.at, Try.func14, base, Try.f14]
  rw [e]
  refine LoneTo.goes (n := 40) ?_
  simp only [Try.f14, Option.getD_some]
  s_c stepG_seq
  s_reg
  s_op
  s_op
  s_c stepG_region_end
  s_c stepG_seq
  s_reg
  s_op
  s_op
  s_op
  s_op
  s_c stepG_region_end
  s_c stepG_seq
  s_reg
  s_stop
  refine LoneTo.step (step_lone_select_default (c := c) (cap := cap) (s := s) (r := r) (tm := false) (z := .string { data := #[] }) (stepG_comm (cases := #[rcase c (.string { data := #[] })]) (blocking := false) (shape := .select) (w' := w) rfl rfl (by decide) (by simp [go_sem, execOp, rcase, Act.eval])) hc) ?_
  rw [Frame.finish_at]
  walk_nrm
  refine LoneTo.goes (n := 40) ?_
  s_op
  s_op
  s_c stepG_region_end
  s_c stepG_block
  s_cond false
  s_c stepG_seq
  s_reg
  s_op
  s_c stepG_region_end
  s_c stepG_seq
  s_reg
  s_op
  s_op
  s_op
  s_c stepG_region_end
  s_c stepG_ret'
  s_stop
  exact LoneTo.done ⟨.returned (.tuple #[.string { data := #[] }, .bool false]), _, rfl, ⟨rfl, rfl⟩, rfl, rfl, rfl, rfl, _, Try.func14, by simp [results, Try.f14, Frame.at]⟩

theorem len_boxS (w : World) (p c cap : Nat) (buf : List Value) (h : BoxAt w p c cap buf) :
    Calls Try.prog 17 #[.pointer (some ⟨p, 0, none⟩)] w fun e w' => e = .returned (.int .i64 buf.length) ∧ w = w' := by
  obtain ⟨hp, s, r, hc⟩ := h
  have hl : ∀ ty, (Builtin.len_ #[50] ty #[.chan (some c)]).run Try.prog w = .ok (.int .i64 buf.length) w := fun ty => (run_len_chan 50 ty Try.underlying50 hc).trans (by simp [goInt])
  go_enter Try.func17, Try.ntmps17
  go_wp2_with fail
  go_ret
  exact ⟨rfl, rfl⟩

theorem room_boxS (w : World) (p c cap : Nat) (buf : List Value) (h : BoxAt w p c cap buf) (hr : buf.length ≤ cap) (hcap : (cap : Int) ≤ 16) :
    Calls Try.prog 18 #[.pointer (some ⟨p, 0, none⟩)] w fun e w' => e = .returned (.int .i64 (cap - buf.length : Nat)) ∧ ∃ q, w.drewN q = w' := by
  obtain ⟨hp, s, r, hc⟩ := h
  have hl : ∀ n ty, (Builtin.len_ #[50] ty #[.chan (some c)]).run Try.prog (w.drewN n) = .ok (.int .i64 buf.length) (w.drewN n) := fun n ty => (run_len_chan (w := w.drewN n) 50 ty Try.underlying50 hc).trans (by simp [goInt])
  have hk : ∀ n ty, (Builtin.cap_ #[50] ty #[.chan (some c)]).run Try.prog (w.drewN n) = .ok (.int .i64 cap) (w.drewN n) := fun n ty => (run_cap_chan (w := w.drewN n) 50 ty Try.underlying50 hc).trans (by simp [goInt])
  have hq : IntKind.i64.wrap ((cap : Int) - (buf.length : Int)) = ((cap - buf.length : Nat) : Int) := by rw [IntWalk.i64_in _ (by omega)]; omega
  go_enter Try.func18, Try.ntmps18
  go_wp2_with fail
  go_quiet (fail)
  go_wp2_with fail
  go_ret
  exact ⟨rfl, _, rfl⟩

theorem bytes9 : ∃ i, Try.prog.info? 9 = some i ∧ i.bytes = 16 := by
  have h : (Try.prog.info? 9).map (·.bytes) = some 16 := by kernel_rfl
  obtain ⟨i, hi, hb⟩ := Option.map_eq_some_iff.1 h
  exact ⟨i, hi, hb⟩

theorem mk_chanS (n : Nat) (hn : (n : Int) ≤ 16) (w : World) : (Instr.makeChan 50 (.int .i64 n)).run Try.prog w = .ok (.chan (some w.heap.size)) (w.alloc (.chan n #[] false 0 0 false)) := by
  obtain ⟨i, hi, hb⟩ := bytes9
  exact run_makeChan (P := Try.prog) (w := w) Try.underlying50 hi .i64 n (by omega) (by rw [hb]; omega)

theorem new_boxS (n : Nat) (w : World) (h1 : (1 : Int) ≤ n) (h2 : (n : Int) ≤ 16) :
    Calls Try.prog 13 #[.int .i64 n] w fun e w' => ∃ p c, e = .returned (.tuple #[.pointer (some ⟨p, 0, none⟩), .int .i64 0]) ∧ BoxAt w' p c n [] ∧ Below w.heap.size w w' ∧ w.heap.size ≤ c ∧ w.heap.size ≤ p := by
  have hmk := mk_chanS n h2
  go_enter Try.func13, Try.ntmps13
  go_wp2_with fail
  go_ret2
  exact ⟨_, _, rfl, ⟨by go_simp, 0, 0, (Below.heap_alloc _ _ _ (by simp)).trans (heap_alloc_new _ _)⟩, ((Below.refl _ _).alloc (Nat.le_refl _) _).alloc (by simp) _, Nat.le_refl _, by omega⟩

theorem new_notS (n : Int) (w : World) (h : ¬ (1 ≤ n ∧ n ≤ 16)) :
    Calls Try.prog 13 #[.int .i64 n] w fun e w' => e = .returned (.tuple #[.pointer none, .int .i64 1]) ∧ w = w' := by
  by_cases g1 : 1 ≤ n
  · have g2 : 16 < n := by omega
    clear h
    go_enter Try.func13, Try.ntmps13
    go_wp2_with fail
    go_ret2
    exact ⟨rfl, rfl⟩
  · clear h
    go_enter Try.func13, Try.ntmps13
    go_wp2_with fail
    go_ret2
    exact ⟨rfl, rfl⟩
end Go.Proofs.Ytilmdimffgohjaa
