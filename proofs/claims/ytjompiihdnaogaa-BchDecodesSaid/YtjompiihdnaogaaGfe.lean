/- Walks over sync.Once, the first time: the field's tables are made. -/
import Derived.Test.YtjompiihdnaogaaGfd
namespace Go.Proofs.Ytjompiihdnaogaa
open Go.RowKit Go.Mem

theorem race_disable (w : World) : (callFunc 83 #[]).run Try.prog w = .ok (.value (.tuple #[])) w := run_call_mark0 Try.func83 (by kernel_rfl) (by kernel_rfl) (by kernel_rfl) .disable (by kernel_rfl) w
theorem race_enable (w : World) : (callFunc 85 #[]).run Try.prog w = .ok (.value (.tuple #[])) w := run_call_mark0 Try.func85 (by kernel_rfl) (by kernel_rfl) (by kernel_rfl) .enable (by kernel_rfl) w
theorem race_acquire (a : Addr) (w : World) : (callFunc 86 #[.pointer (some a)]).run Try.prog w = .ok (.value (.tuple #[])) w := run_call_marked Try.func86 (by kernel_rfl) (by kernel_rfl) (by kernel_rfl) .acquire (by kernel_rfl) a w
theorem race_releaseMerge (a : Addr) (w : World) : (callFunc 88 #[.pointer (some a)]).run Try.prog w = .ok (.value (.tuple #[])) w := run_call_marked Try.func88 (by kernel_rfl) (by kernel_rfl) (by kernel_rfl) .releaseMerge (by kernel_rfl) a w

theorem store_deferred (a : Addr) (x : Value) (u : FrameMode) (w : World) (hc : w.cell? a = some x) (hz : w.frozen? a = false) :
    CallsD Try.prog 78 #[.pointer (some a), .bool true] u w fun e u' w' => u' = u ∧ (e = .returned (.tuple #[]) ∧ w' = w.drew.setCell a (.int .u32 1)) := by
  have hc' : w.drew.cell? a = some x := by go_simp
  have hz' : w.drew.frozen? a = false := by go_simp
  have hst := run_call_store (P := Try.prog) Try.func81 (by kernel_rfl) (by kernel_rfl) (by kernel_rfl) (by kernel_rfl) (k := .u32) (y := 1) hc' hz'
  go_enter_d Try.func78, Try.ntmps78
  go_wp2
  go_region_calls
  all_goals (go_end0; exact ⟨rfl, rfl⟩)

set_option maxRecDepth 100000 in
theorem unlock_deferred (a : Addr) (u : FrameMode) (w : World) (hc : w.cell? a = some (.int .i32 1)) (hz : w.frozen? a = false) :
    CallsD Try.prog 77 #[.pointer (some a)] u w fun e u' w' => u' = u ∧ (e = .returned (.tuple #[]) ∧ w' = w.setCell a (.int .i32 0)) := by
  have hd := race_disable
  have he := race_enable
  have hr := race_releaseMerge
  have hadd := run_call_add (P := Try.prog) Try.func89 (by kernel_rfl) (by kernel_rfl) (by kernel_rfl) .i32 (by kernel_rfl) (y := -1) (s := 0) hc hz (by simp [go_sem]; rfl)
  have hcv := run_convert_to_unsafe (P := Try.prog) (src := 120) (dst := 124) Try.underlying120 Try.underlying124 (by kernel_rfl) hc
  go_enter_d Try.func77, Try.ntmps77
  go_wp2
  go_end0
  go_wp2
  go_end0
  exact ⟨rfl, rfl⟩

set_option maxRecDepth 100000 in
theorem lock_free (a : Addr) (w : World) (hc : w.cell? a = some (.int .i32 0)) (hz : w.frozen? a = false) :
    Calls Try.prog 76 #[.pointer (some a)] w fun e w' => e = .returned (.tuple #[]) ∧ w' = w.setCell a (.int .i32 1) := by
  have hd := race_disable
  have he := race_enable
  have ha := race_acquire
  have hcas := run_call_cas_hit (P := Try.prog) Try.func84 (by kernel_rfl) (by kernel_rfl) (by kernel_rfl) .i32 (by kernel_rfl) (y := 1) hc hz
  have hc' : (w.setCell a (.int .i32 1)).cell? a = some (.int .i32 1) := World.cell?_setCell_same w a _ hc
  have hcv := run_convert_to_unsafe (P := Try.prog) (src := 120) (dst := 124) Try.underlying120 Try.underlying124 (by kernel_rfl) hc'
  go_enter Try.func76, Try.ntmps76
  go_wp2
  first | go_end0 | (simp only [Exit.inBlock, Exit.then]; refine bodyPost_ret (results_none rfl _ _ _) rfl ?_) | refine bodyPost_ret (results_none rfl _ _ _) rfl ?_
  go_wp2
  go_end0
  exact ⟨rfl, rfl⟩

set_option maxRecDepth 100000 in
set_option maxHeartbeats 1600000 in
theorem slow_any (b m : Nat) (w : World) (hm : Gf.Ok m) (h : Raw w b m) :
    Calls Try.prog 70 #[.pointer (some ⟨b, 1, none⟩), .func (.func 61) #[.pointer (some ⟨b, 0, none⟩)] #[]] w fun e w' => e = .returned (.tuple #[]) ∧ Made w' b m ∧ w.grownBy w' (some b) := by
  have hb := h
  unfold Raw at hb
  have h0 : w.cell? ⟨b, 1, none⟩ = some (.int .u32 0) := cell_at hb 1
  have h1 : w.cell? ⟨b, 2, none⟩ = some (.int .i32 0) := cell_at hb 2
  have f0 : w.frozen? ⟨b, 1, none⟩ = false := free_at hb 1
  have f1 : w.frozen? ⟨b, 2, none⟩ = false := free_at hb 2
  have hl := run_call_load (P := Try.prog) Try.func75 (by kernel_rfl) (by kernel_rfl) (by kernel_rfl) .u32 (by kernel_rfl) (w := w.setCell ⟨b, 2, none⟩ (.int .i32 1)) (a := ⟨b, 1, none⟩) (x := 0) ((World.cell?_setCell_other _ ⟨b, 2, none⟩ ⟨b, 1, none⟩ _ (by simp)).trans h0)
  have hb1 : (w.setCell ⟨b, 2, none⟩ (.int .i32 1)).heap[b]? = some (.cells #[.int .i64 m, .int .u32 0, .int .i32 1, .int .u32 0, .slice none 0 0, .slice none 0 0] 98 (0, 0)) := set_at hb 2 _
  have hnot : ∀ (x : Bool) (w : World), (Op.unary .not (.bool x)).run Try.prog w = .ok (.bool (!x)) w := fun _ _ => rfl
  have HB := hid hb
  have HB1 := hid hb1
  clear hb hb1 h
  go_enter_defers Try.func70, Try.ntmps70
  go_wp2_with (first | (go_at_call 76; refine (lock_free ⟨b, 2, none⟩ _ (by go_simp) (by go_simp)).mono ?_; rintro e w' ⟨rfl, rfl⟩) | (go_at_call 69; go_in))
  refine (tables_any b m _ _ _ _ _ _ hm HB1.out).mono ?_
  rintro e w2 ⟨rfl, p, l, hp, hl, hpl, hb2, hp2, hl2, hgr⟩
  have HB2 := hid hb2
  have HP2 := hid hp2
  have HL2 := hid hl2
  have HGR := hid hgr
  clear hb2 hp2 hl2 hgr
  dsimp only
  go_wp2
  have hb2 := HB2.out
  refine leaves_cons (f := 78) (args := #[.pointer (some ⟨b, 1, none⟩), .bool true]) (by simp) (by simp [go_sem]) ?_
  refine (store_deferred ⟨b, 1, none⟩ (.int .u32 0) .returning _ (cell_at hb2 1) (free_at hb2 1)).mono ?_
  rintro e u' w'' ⟨rfl, rfl, rfl⟩
  have hb3 : (w2.drew.setCell ⟨b, 1, none⟩ (.int .u32 1)).heap[b]? = _ := set_at (w := w2.drew) hb2 1 _
  refine leaves_cons (f := 77) (args := #[.pointer (some ⟨b, 2, none⟩)]) (by simp [settle]) (by simp [go_sem]) ?_
  refine (unlock_deferred ⟨b, 2, none⟩ _ _ (cell_at hb3 2) (free_at hb3 2)).mono ?_
  rintro e u' w'' ⟨rfl, rfl, rfl⟩
  have hb4 := set_at hb3 2 (.int .i32 0)
  have hs : (w.setCell ⟨b, 2, none⟩ (.int .i32 1)).heap.size = w.heap.size := by simp
  have hbl := lt_at HB.out
  rw [hs] at hp hl
  have k1 : Made ((w2.drew.setCell ⟨b, 1, none⟩ (.int .u32 1)).setCell ⟨b, 2, none⟩ (.int .i32 0)) b m := by
    refine ⟨p, l, hb4, ?_, ?_⟩
    · exact (set_other (by simp; omega)).trans ((set_other (by simp; omega)).trans HP2.out)
    · exact (set_other (by simp; omega)).trans ((set_other (by simp; omega)).trans HL2.out)
  have k2 : w.grownBy ((w2.drew.setCell ⟨b, 1, none⟩ (.int .u32 1)).setCell ⟨b, 2, none⟩ (.int .i32 0)) (some b) := by
    have g := HGR.out
    refine ⟨g.os, g.tape, g.output, ?_, fun q hq hqb => ?_⟩
    · have := g.size; simpa using this
    · have hne : q ≠ b := fun e => hqb (by rw [e])
      exact (set_other (by simpa using hne)).trans ((set_other (by simpa using hne)).trans ((g.block q (by simpa using hq) hqb).trans (set_other (by simpa using hne))))
  simp only [Leaves, settle]
  exact ⟨.tuple #[], by simp [results, Try.results70], rfl, k1, k2⟩

set_option maxRecDepth 100000 in
set_option maxHeartbeats 1600000 in
theorem do_first (b m : Nat) (w : World) (hm : Gf.Ok m) (h : Raw w b m) :
    Calls Try.prog 60 #[.pointer (some ⟨b, 1, none⟩), .func (.func 61) #[.pointer (some ⟨b, 0, none⟩)] #[]] w fun e w' => e = .returned (.tuple #[]) ∧ Made w' b m ∧ w.grownBy w' (some b) := by
  have hb := h
  unfold Raw at hb
  have h0 : w.cell? ⟨b, 1, none⟩ = some (.int .u32 0) := cell_at hb 1
  have hl := run_call_load (P := Try.prog) Try.func75 (by kernel_rfl) (by kernel_rfl) (by kernel_rfl) .u32 (by kernel_rfl) h0
  have hnot : ∀ (x : Bool) (w : World), (Op.unary .not (.bool x)).run Try.prog w = .ok (.bool (!x)) w := fun _ _ => rfl
  have HH := hid h
  clear hb h
  go_enter Try.func60, Try.ntmps60
  go_wp2_with (first | (go_at_call 70; refine (slow_any b m _ hm HH.out).mono ?_; rintro e w' ⟨rfl, h1, h2⟩) | (go_at_call 69; go_in))
  go_end0
  exact ⟨rfl, h1, h2⟩
end Go.Proofs.Ytjompiihdnaogaa
