/- What a script's call does at any power, in plain Lean; the states that may be found. -/
import Derived.Test.YtkdjefnnhanhhaaZLkg
import Derived.Test.YtkdjefnnhanhhaaZLkj
import Derived.Test.YtkdjefnnhanhhaaZLki
import Derived.Maps.RangeWalk
set_option linter.unusedVariables false
namespace Go.Proofs.Ytkdjefnnhanhhaa
open Go Go.RowKit Go.Mem Go.Jn
set_option linter.unusedVariables false

theorem doK_lt (o : HOp) : doK o < 6 := Nat.mod_lt _ (by omega)
/-- What a script's call answers, and what may be found behind it. -/
theorem do_inv {s : JS} {A : MM → Prop} {n : Nat} (hI : Inv s A n) (hn : n ≤ 1000000) (o : HOp) (ho : o.Fit) (keys : Nat) (hk : 0 < keys ∧ keys ≤ 1000000) :
    (((doJ s o keys).1 = 90 ∨ (doJ s o keys).1 = 70) ∧ (doJ s o keys).2 = s ∧ doM s o keys = s.j.m) ∨
    ((doJ s o keys).2.t.nb = s.t.nb ∧ (doJ s o keys).2.t.size = s.t.size ∧
      (((doJ s o keys).1 = 0 ∧ (doJ s o keys).2.j.m = doM s o keys ∧ ((doK o = 5 ∧ doM s o keys = s.j.m ∧ Inv (doJ s o keys).2 (fun m => m = s.j.m) (n + 1)) ∨ (doK o ≠ 5 ∧ Inv (doJ s o keys).2 (fun m => A m ∨ m = doM s o keys) (n + 1)))) ∨
       ((doJ s o keys).1 = 40 ∧ ((doK o = 5 ∧ doM s o keys = s.j.m ∧ Dead (doJ s o keys).2 A (n + 1)) ∨ (doK o ≠ 5 ∧ Dead (doJ s o keys).2 (fun m => A m ∨ m = doM s o keys) (n + 1)))))) := by
  have hx : doX o keys < 18446744073709551616 := by
    have := Nat.mod_lt (absN' o.sector) hk.1
    unfold doX; omega
  have h6 := doK_lt o
  unfold doJ doM
  by_cases h3 : doK o < 3
  · rw [if_pos h3, if_pos h3]
    rcases set_inv (k := doX o keys) (v := o.value) hI hn hx ho.2.2 with ⟨e1, e2, e3⟩ | ⟨e1, e2, e3, e4, e5, e6⟩
    · left
      rw [e1]
      exact ⟨.inl rfl, rfl, if_pos rfl⟩
    · right
      have hne : ¬ (s.set (doX o keys) o.value).1 = 90 := by rcases e2 with e2 | e2 <;> rw [e2] <;> decide
      rw [if_neg hne]
      refine ⟨e5, e6, ?_⟩
      rcases e2 with e2 | e2
      · obtain ⟨k1, k2⟩ := e3 e2
        exact .inl ⟨e2, k2, .inr ⟨by omega, k1⟩⟩
      · exact .inr ⟨e2, .inr ⟨by omega, e4 (by rw [e2]; decide)⟩⟩
  · rw [if_neg h3, if_neg h3]
    by_cases h5 : doK o < 5
    · rw [if_pos h5, if_pos h5]
      rcases drop_inv (k := doX o keys) hI hn hx with ⟨e1, e2⟩ | ⟨e1, e2, e3, e4, e5, e6⟩
      · left
        rw [e1]
        exact ⟨.inr rfl, rfl, del_none e2⟩
      · right
        refine ⟨e5, e6, ?_⟩
        rcases e2 with e2 | e2
        · obtain ⟨k1, k2⟩ := e3 e2
          exact .inl ⟨e2, k2, .inr ⟨by omega, k1⟩⟩
        · exact .inr ⟨e2, .inr ⟨by omega, e4 (by rw [e2]; decide)⟩⟩
    · rw [if_neg h5, if_neg h5]
      obtain ⟨y1, y2, y3, y4, y5⟩ := sync_inv hI hn
      right
      refine ⟨y4, y5, ?_⟩
      rcases y1 with y1 | y1
      · obtain ⟨i1, i2, i3⟩ := y2 y1
        exact .inl ⟨y1, i3, .inl ⟨by omega, rfl, i1⟩⟩
      · exact .inr ⟨y1, .inl ⟨by omega, rfl, y3 (by rw [y1]; decide)⟩⟩
theorem doM_fit {s : JS} {A : MM → Prop} {n : Nat} (hI : Inv s A n) (hn : n ≤ 1000000) (o : HOp) (ho : o.Fit) (keys : Nat) (hk : 0 < keys ∧ keys ≤ 1000000) : FitM (doM s o keys) ∧ (doM s o keys).length ≤ s.t.room := by
  have hx : doX o keys < 18446744073709551616 := by
    have := Nat.mod_lt (absN' o.sector) hk.1
    unfold doX; omega
  have hfew := hI.few
  unfold doM
  by_cases h3 : doK o < 3
  · rw [if_pos h3]
    rcases set_inv (k := doX o keys) (v := o.value) hI hn hx ho.2.2 with ⟨e1, e2, e3⟩ | ⟨e1, e2, _⟩
    · rw [e1, if_pos rfl]; exact ⟨hI.ok.fit, hI.few⟩
    · rw [if_neg (by rcases e2 with e2 | e2 <;> rw [e2] <;> decide)]
      refine ⟨hI.ok.fit.put hx ho.2.2, ?_⟩
      unfold putM
      rw [len_insM]
      rcases e1 with e1 | e1
      · have := len_delM_some e1; omega
      · have := len_delM (k := doX o keys) (M := s.j.m); omega
  · rw [if_neg h3]
    by_cases h5 : doK o < 5
    · rw [if_pos h5]
      exact ⟨hI.ok.fit.del, Nat.le_trans len_delM hI.few⟩
    · rw [if_neg h5]; exact ⟨hI.ok.fit, hI.few⟩
/-- A tape of which one of the maps Ms may be found. -/
structure Fd (t : Tp) (Ms : List MM) (d nb size n : Nat) : Prop where
  ok : t.Ok
  nb : t.nb = nb
  size : t.size = size
  snd : Snd t (fun m => m ∈ Ms.drop d)
  lim : ∃ top, top ≤ n ∧ Lim t top (n * 20000)
  ops : t.ops ≤ n * 20000
  fit : ∀ m ∈ Ms.drop d, FitM m ∧ m.length ≤ t.room
/-- A journal that runs beside the maps Ms, of which those from d on may be found. -/
structure Rn (s : JS) (Ms : List MM) (d nb size n : Nat) : Prop where
  inv : ∃ A k, Inv s A k ∧ k ≤ n ∧ ∀ m, A m → m ∈ Ms.drop d
  nb : s.t.nb = nb
  size : s.t.size = size
  last : Ms.getLast? = some s.j.m
  fit : ∀ m ∈ Ms.drop d, FitM m ∧ m.length ≤ s.t.room
  d : d < Ms.length
theorem Ap.cutT {s : JS} {R : List Rec} {lo b : Nat} (h : Ap s R lo b) (c : Int) (hf : Bool) : Ap ⟨s.j, { s.t with cut := c, half := hf }⟩ R lo b := ⟨h.ar, h.cnt, h.rows, h.lo, h.fin, h.ris, h.seq, h.fit, h.lim, h.sb, h.top⟩
theorem Lv.cutT {s : JS} {R : List Rec} {lo b : Nat} (h : Lv s R lo b) (c : Int) (hf : Bool) : Lv ⟨s.j, { s.t with cut := c, half := hf }⟩ R lo b := ⟨h.ap.cutT c hf, h.root, h.map, h.late, h.g1, h.wr⟩
theorem Tp.Ok.cutT {t : Tp} (h : t.Ok) (c : Int) (hf : Bool) : Tp.Ok { t with cut := c, half := hf } := ⟨h.n8, h.nl, h.s128, h.sl⟩
theorem Inv.cutT {s : JS} {A : MM → Prop} {n : Nat} (h : Inv s A n) (c : Int) (hf : Bool) : Inv ⟨s.j, { s.t with cut := c, half := hf }⟩ A n := by
  refine ⟨⟨h.ok.fit, h.ok.few, h.ok.gen, h.ok.top, h.ok.area, h.ok.block, h.ok.rows, h.ok.rfit, h.ok.seq, h.ok.bad⟩, h.tok.cutT c hf, h.bad, h.few, h.cur, h.old, ?_, h.ops, h.seq, h.top⟩
  rcases h.st with h' | ⟨R, lo, h1, h2⟩
  · exact .inl h'
  · exact .inr ⟨R, lo, h1.cutT c hf, h2⟩
section
variable {s : JS} {t : Tp} {Ms : List MM} {d nb size n : Nat}
theorem Rn.start {k : Nat} (hI : Inv s (fun m => m = s.j.m) k) (hk : k ≤ n) (h1 : s.t.nb = nb) (h2 : s.t.size = size) : Rn s [s.j.m] 0 nb size n :=
  ⟨⟨_, k, hI, hk, fun m hm => by rw [hm]; simp⟩, h1, h2, rfl, fun m hm => by
    have : m = s.j.m := by simpa using hm
    rw [this]; exact ⟨hI.ok.fit, hI.few⟩, by simp⟩
theorem Rn.more (h : Rn s Ms d nb size n) {m : Nat} (hm : n ≤ m) : Rn s Ms d nb size m := by
  obtain ⟨A, k, h1, h2, h3⟩ := h.inv
  exact ⟨⟨A, k, h1, by omega, h3⟩, h.nb, h.size, h.last, h.fit, h.d⟩
theorem Rn.fd (h : Rn s Ms d nb size n) : Fd s.t Ms d nb size n := by
  obtain ⟨A, k, h1, h2, h3⟩ := h.inv
  have h4 : k * 20000 ≤ n * 20000 := Nat.mul_le_mul_right _ h2
  exact ⟨h1.tok, h.nb, h.size, h1.snd.imp h3, ⟨s.j.top, Nat.le_trans h1.top h2, h1.lim.mono (Nat.le_refl _) h4⟩, Nat.le_trans h1.ops h4, h.fit⟩
theorem drop_last {α : Type} {l : List α} {x : α} (h : l.getLast? = some x) : l.drop (l.length - 1) = [x] := by
  obtain ⟨ys, rfl⟩ := List.getLast?_eq_some_iff.1 h
  rw [List.length_append, List.length_singleton, Nat.add_sub_cancel, List.drop_left]
/-- One call of a script. -/
theorem Rn.doo (h : Rn s Ms d nb size n) (hn : n ≤ 1000000) (o : HOp) (ho : o.Fit) (keys : Nat) (hk : 0 < keys ∧ keys ≤ 1000000) :
    (((doJ s o keys).1 = 90 ∨ (doJ s o keys).1 = 70) ∧ (doJ s o keys).2 = s ∧ doM s o keys = s.j.m) ∨
    (doK o = 5 ∧ doM s o keys = s.j.m ∧ (((doJ s o keys).1 = 0 ∧ (doJ s o keys).2.j.m = s.j.m ∧ Rn (doJ s o keys).2 Ms (Ms.length - 1) nb size (n + 1)) ∨ ((doJ s o keys).1 = 40 ∧ Fd (doJ s o keys).2.t Ms d nb size (n + 1)))) ∨
    (doK o ≠ 5 ∧ (((doJ s o keys).1 = 0 ∧ (doJ s o keys).2.j.m = doM s o keys ∧ Rn (doJ s o keys).2 (Ms ++ [doM s o keys]) d nb size (n + 1)) ∨ ((doJ s o keys).1 = 40 ∧ Fd (doJ s o keys).2.t (Ms ++ [doM s o keys]) d nb size (n + 1)))) := by
  obtain ⟨A, k, hI, hkn, hA⟩ := h.inv
  have hfit := doM_fit hI (by omega) o ho keys hk
  have hd := h.d
  have hdr : (Ms ++ [doM s o keys]).drop d = Ms.drop d ++ [doM s o keys] := List.drop_append_of_le_length (by omega)
  have hmem : ∀ m, A m ∨ m = doM s o keys → m ∈ (Ms ++ [doM s o keys]).drop d := fun m hm => by
    rw [hdr]
    rcases hm with hm | hm
    · exact List.mem_append.2 (.inl (hA m hm))
    · exact List.mem_append.2 (.inr (by rw [hm]; simp))
  have h4 : (k + 1) * 20000 ≤ (n + 1) * 20000 := Nat.mul_le_mul_right _ (by omega)
  rcases do_inv hI (by omega) o ho keys hk with h9 | ⟨e5, e6, ⟨c1, c2, h9⟩ | ⟨c1, h9⟩⟩
  · exact .inl h9
  · have hroom : (doJ s o keys).2.t.room = s.t.room := room_of e5 e6
    rcases h9 with ⟨h5, hm, hI'⟩ | ⟨h5, hI'⟩
    · refine .inr (.inl ⟨h5, hm, .inl ⟨c1, c2.trans hm, ⟨⟨_, k + 1, hI', by omega, fun m hm' => by rw [drop_last h.last, hm']; simp⟩, e5.trans h.nb, e6.trans h.size, by rw [c2, hm]; exact h.last, fun m hm' => ?_, by omega⟩⟩⟩)
      rw [drop_last h.last] at hm'
      have : m = s.j.m := by simpa using hm'
      rw [this, hroom]; exact ⟨hI.ok.fit, hI.few⟩
    · refine .inr (.inr ⟨h5, .inl ⟨c1, c2, ⟨⟨_, k + 1, hI', by omega, hmem⟩, e5.trans h.nb, e6.trans h.size, by rw [List.getLast?_append, c2]; rfl, fun m hm' => ?_, by rw [List.length_append]; omega⟩⟩⟩)
      rw [hdr] at hm'
      rw [hroom]
      rcases List.mem_append.1 hm' with hm' | hm'
      · exact h.fit m hm'
      · have : m = doM s o keys := by simpa using hm'
        rw [this]; exact hfit
  · have hroom : (doJ s o keys).2.t.room = s.t.room := room_of e5 e6
    have hok : (doJ s o keys).2.t.Ok := hI.tok.of e5 e6
    rcases h9 with ⟨h5, hm, hD⟩ | ⟨h5, hD⟩
    · exact .inr (.inl ⟨h5, hm, .inr ⟨c1, ⟨hok, e5.trans h.nb, e6.trans h.size, hD.snd.imp hA, ⟨k + 1, by omega, hD.lim.mono (Nat.le_refl _) h4⟩, Nat.le_trans hD.ops h4, fun m hm' => by rw [hroom]; exact h.fit m hm'⟩⟩⟩)
    · refine .inr (.inr ⟨h5, .inr ⟨c1, ⟨hok, e5.trans h.nb, e6.trans h.size, hD.snd.imp hmem, ⟨k + 1, by omega, hD.lim.mono (Nat.le_refl _) h4⟩, Nat.le_trans hD.ops h4, fun m hm' => ?_⟩⟩⟩)
      rw [hdr] at hm'
      rw [hroom]
      rcases List.mem_append.1 hm' with hm' | hm'
      · exact h.fit m hm'
      · have : m = doM s o keys := by simpa using hm'
        rw [this]; exact hfit
theorem Fd.leave (h : Fd t Ms d nb size n) (zs : List Int) : Fd (t.leave zs) Ms d nb size n := by
  obtain ⟨top, h1, h2⟩ := h.lim
  exact ⟨⟨h.ok.n8, h.ok.nl, h.ok.s128, h.ok.sl⟩, h.nb, h.size, leave_snd h.snd, ⟨top, h1, leave_lim h2⟩, h.ops, h.fit⟩
/-- What is found. -/
theorem Fd.found (h : Fd t Ms d nb size n) (hC : Clean t) (hn : n ≤ 1000000) : (openF t.last t.nb t.size).m ∈ Ms.drop d ∧ Inv ⟨openF t.last t.nb t.size, t.stepN t.nb⟩ (fun m => m = (openF t.last t.nb t.size).m) (n + 1) := by
  obtain ⟨top, h1, h2⟩ := h.lim
  exact open_inv hC h.snd h2 h.ok h1 h.ops hn h.fit
/-- The power is set to fail. -/
theorem Rn.cut (h : Rn s Ms d nb size n) (c : Int) (hf : Bool) : Rn ⟨s.j, { s.t with cut := c, half := hf }⟩ Ms d nb size n := by
  obtain ⟨A, k, h1, h2, h3⟩ := h.inv
  refine ⟨⟨A, k, ?_, h2, h3⟩, h.nb, h.size, h.last, h.fit, h.d⟩
  exact h1.cutT c hf
end
end Go.Proofs.Ytkdjefnnhanhhaa
/- Walks over the journal's laws: copied. -/
namespace Go.Proofs.Ytkdjefnnhanhhaa
open Go Go.RowKit Go.Mem Go.Hs Go.Jn Go.Maps
set_option linter.unusedVariables false

theorem get_of_mem {M : MM} (h : RisM M) {p : Nat × Nat} (hp : p ∈ M) : getM M p.1 = some p.2 := by
  obtain ⟨i, hi, rfl⟩ := List.mem_iff_getElem.1 hp
  exact getM_at h (List.getElem?_eq_getElem hi)
theorem ris_ext {a b : MM} (ha : RisM a) (hb : RisM b) (h : ∀ k, getM a k = getM b k) : a = b := by
  have h1 : ∀ p ∈ a, p ∈ b := fun p hp => getM_mem (by rw [← h]; exact get_of_mem ha hp)
  have h2 : ∀ p ∈ b, p ∈ a := fun p hp => getM_mem (by rw [h]; exact get_of_mem hb hp)
  have l1 := sub_len ha hb h1
  have l2 := sub_len hb ha h2
  exact ris_eq ha hb h1 (by omega)
set_option maxRecDepth 100000 in
set_option maxHeartbeats 1600000 in
theorem copied_any {w : World} {mb : Nat} {M : MM} (hM : MAt Try.prog 38 38 w mb M) (hl : M.length ≤ 60000) :
    Calls Try.prog 20 #[.map (some mb)] w fun e w' => e = .returned (.map (some w.heap.size)) ∧ MAt Try.prog 38 38 w' w.heap.size M ∧ Below w.heap.size w w' := by
  have hmm := @run_makeMap Try.prog
  obtain ⟨W0, hW0⟩ : ∃ W, w.alloc (.map #[] 0) = W := ⟨_, rfl⟩
  have hb0 : Below w.heap.size w W0 := by rw [← hW0]; exact (Below.refl _ _).alloc (Nat.le_refl _) _
  have hs0 : W0.heap.size = w.heap.size + 1 := by rw [← hW0]; simp
  have hM0 := hM.below hb0
  have hC0 : MAt Try.prog 38 38 W0 w.heap.size [] := by rw [← hW0]; exact MAt.nil _ _ _ _
  have hml := hM.lt
  have HB0 := hid hb0
  have HC0 := hid hC0
  have hown := hM0.1
  obtain ⟨B, hB⟩ : ∃ B, w.heap.size = B := ⟨_, rfl⟩
  have HBE := hid hB
  have hsz : Maps.size (mD M) = M.length := size_mD M
  go_enter Try.func20, Try.ntmps20
  go_wp2_with (first | (at_range; refine wpList_range_own _ rfl _ 44 rfl 38 38 (int_keyed Try.underlying38) Try.underlying44 _ mb M.length (mD M) rfl hown ?_; intro w1 hrg0 hg0 hs1) | go_in)
  go_frame
  have hB0 : B + 1 = W0.heap.size := by rw [hs0, hB]
  obtain ⟨r, hr⟩ : ∃ r, W0.heap.size = r := ⟨_, rfl⟩
  have hC1 : MAt Try.prog 38 38 w1 B [] := by
    have := hC0.kept hg0 (by simp)
    rw [hB] at this; exact this
  have hb1 : Below w.heap.size w w1 := hb0.grown hg0 hb0.size (fun k e => by cases e)
  rw [hr] at hrg0 ⊢
  have HRIS := hid hM.2.1
  have HFIT := hid hM.2
  have HST := hid (show ∀ k : Nat, getM [] k = if has (mD M) (keyL k) = true then none else getM M k from fun k => by
    rw [has_mD]
    cases hk : getM M k with
    | none => rfl
    | some v => rfl)
  have hrl : mb < r ∧ B < r := by omega
  have HR1 := hid hrg0
  have HC1 := hid hC1
  have HB1 := hid hb1
  clear hM hM0 hC0 hown hg0 hs1 hs0 hW0 hb0 hC1 hb1 hr hB0 hsz hrg0
  go_loopw [4] (fun _ wr => ∃ (left : Lit → Bool) (cnt : Nat) (C : MM), wr.ranges Try.prog 38 (plainElem Try.prog 38) mb r M.length (mD M) left cnt ∧ MAt Try.prog 38 38 wr B C ∧ (∀ k : Nat, getM C k = if left (keyL k) = true then none else getM M k) ∧ Below w.heap.size w wr)
    (fun _ wr => wr.rangeLeft mb r)
  case atStart => exact ⟨_, _, [], HR1.out, HC1.out, HST.out, HB1.out⟩
  case round =>
    obtain ⟨left, cnt, C, hrg, hC, hG, hb⟩ := hrel
    have HC := hid hC
    have HG := hid hG
    have HB := hid hb
    clear hC hG hb
    go_wp2_with (first | (at_next; refine wpList_next_ranges_ii _ rfl _ rfl 38 38 .u64 .u64 (int_keyed Try.underlying38) Try.underlying38 Try.underlying38 mb r M.length (mD M) left cnt rfl hrg ?_ ?_) | go_in)
    · intro hc0 hl0
      go_wp2_with fail
      go_ret
      have e : C = M := ris_ext HC.out.2.1 HRIS.out (fun k => by rw [HG.out k, hl0]; simp)
      have hbb := HB.out
      rw [HBE.out] at hbb
      first
      | (refine ⟨rfl, ?_, hbb⟩; rw [← e]; exact HC.out)
      | (rw [HBE.out]; refine ⟨rfl, ?_, hbb⟩; rw [← e]; exact HC.out)
    · intro x c w2 cnt2 hwx hwc hlx hat hrg2 hlt hg2 hs2 hen
      obtain ⟨x0, x1⟩ := wf_u64_bounds hwx
      obtain ⟨c0, c1⟩ := wf_u64_bounds hwc
      obtain ⟨xn, rfl⟩ := Int.eq_ofNat_of_zero_le x0
      obtain ⟨cn, rfl⟩ := Int.eq_ofNat_of_zero_le c0
      have hsome : (getM M xn).isSome = true := by
        have := has_true_of_atKey hat
        rwa [show (Lit.int .u64 (xn : Int)) = keyL xn from rfl, has_mD] at this
      have hget : getM M xn = some cn := by
        have h9 := hat (.lit (.int .u64 0))
        rw [show (Lit.int .u64 (xn : Int)) = keyL xn from rfl, at_mD] at h9
        obtain ⟨v, hv⟩ := Option.isSome_iff_exists.1 hsome
        rw [hv] at h9 ⊢
        simp only [Option.getD_some] at h9
        injection h9 with h9
        injection h9 with _ h9
        congr 1
        omega
      have hC2 := HC.out.kept hg2 (fun e => by cases e; omega)
      have hcl : C.length < maxLen := by
        have := sub_len HC.out.2.1 HRIS.out (fun p hp => getM_mem (by
          have h1 := get_of_mem HC.out.2.1 hp
          have h2 := HG.out p.1
          rw [h1] at h2
          by_cases e : left (keyL p.1) = true
          · rw [if_pos e] at h2; cases h2
          · rw [if_neg e] at h2; exact h2.symm))
        unfold maxLen; omega
      obtain ⟨es, cl, hrun, hC3, hg3⟩ := hC2.upd tm_u64 (x := xn) (v := cn) (by omega) (by omega) hcl
      have hb2 := HB.out.grown hg2 HB.out.size (fun k e => by cases e; have := HBE.out; omega)
      have hb3 := hb2.grown hg3 hb2.size (fun k e => by cases e; have := HBE.out; omega)
      have hrg3 := hrg2.kept hg3 (fun e => by cases e; omega) (fun e => by cases e; omega)
      have HC3 := hid hC3
      have HB3 := hid hb3
      have HNEW := hid (show ∀ k : Nat, getM (putM xn cn C) k = if (left (keyL k) && !(keyL k).sameKey (Lit.int .u64 (xn : Int))) = true then none else getM M k from fun k => by
        rw [get_putM]
        by_cases e : k = xn
        · subst e
          rw [if_pos rfl, show (Lit.int .u64 (k : Int)) = keyL k from rfl]
          simp [same_keyL, hget]
        · rw [if_neg e, HG.out k, show (Lit.int .u64 (xn : Int)) = keyL xn from rfl]
          simp [same_keyL, e])
      clear hC2 hcl hC3 hg3 hb2 hb3 hat
      go_wp2_with fail
      go_roundw
      case rel => exact ⟨_, cnt2, _, hrg3, HC3.out, HNEW.out, HB3.out⟩
      case measure => rw [hrg3.left_eq, hrg.left_eq]; exact hlt
end Go.Proofs.Ytkdjefnnhanhhaa
/- Walks over the journal's laws: the states, a slice of maps in memory. -/
namespace Go.Proofs.Ytkdjefnnhanhhaa
open Go Go.RowKit Go.Mem Go.Jn
set_option linter.unusedVariables false

theorem info_map : (Try.prog.info? 44).map (fun i => (i.zero, i.size, i.bytes)) = some (some (.map none), 1, 8) := by kernel_rfl
/-- A slice of maps, in blocks that nobody of N touches. -/
def Sts (N : Nat → Prop) (w : World) (v : Value) (Ms : List MM) : Prop :=
  ∃ vs, w.ownsRow 0 44 1 v Ms.length vs ∧ (∀ g, v.ownBlock = some g → ¬ N g) ∧ ∀ i, i < Ms.length → ∃ b, vs.getD i undef = .map (some b) ∧ ¬ N b ∧ MAt Try.prog 38 38 w b (Ms.getD i [])
section
variable {N N' : Nat → Prop} {w w' : World} {v : Value} {Ms : List MM}
theorem Sts.off (h : Sts N w v Ms) (hF : Off N w w') : Sts N w' v Ms := by
  obtain ⟨vs, h1, h2, h3⟩ := h
  refine ⟨vs, orow_same h1 (fun j cs hj hh => (hF.block j (lt_at hh) (h2 j hj)).trans hh), h2, fun i hi => ?_⟩
  obtain ⟨b, k1, k2, k3⟩ := h3 i hi
  exact ⟨b, k1, k2, k3.same (hF.block b k3.lt k2)⟩
theorem Sts.below (h : Sts N w v Ms) (hb : Below w.heap.size w w') : Sts N w' v Ms := h.off (Off.of_below hb)
theorem Sts.imp (h : Sts N w v Ms) (hN : ∀ j, j < w.heap.size → N' j → N j) : Sts N' w v Ms := by
  obtain ⟨vs, h1, h2, h3⟩ := h
  refine ⟨vs, h1, fun g hg h' => ?_, fun i hi => ?_⟩
  · obtain ⟨cs, hh⟩ := orow_lt h1 hg
    exact h2 g hg (hN g (lt_at hh) h')
  · obtain ⟨b, k1, k2, k3⟩ := h3 i hi
    exact ⟨b, k1, fun h' => k2 (hN b k3.lt h'), k3⟩
theorem Sts.form (h : Sts N w v Ms) : ∃ a c, v = .slice a Ms.length c ∧ Ms.length ≤ c ∧ c ≤ maxLen := by
  obtain ⟨vs, h1, _⟩ := h
  rcases h1.2 with ⟨rfl, h0⟩ | ⟨g, cap, cur, rfl, _, _, h3, h4, _⟩
  · exact ⟨none, 0, by rw [h0], by omega, by unfold maxLen; omega⟩
  · exact ⟨_, _, rfl, h3, h4⟩
theorem Sts.at (h : Sts N w v Ms) {j : Nat} (hj : j < Ms.length) : ∃ g c b, v = .slice (some ⟨g, 0, none⟩) Ms.length c ∧ w.cell? ⟨g, j, none⟩ = some (.map (some b)) ∧ ¬ N g ∧ ¬ N b ∧ MAt Try.prog 38 38 w b (Ms.getD j []) := by
  obtain ⟨vs, h1, h2, h3⟩ := h
  obtain ⟨b, k1, k2, k3⟩ := h3 j hj
  rcases h1.2 with ⟨rfl, h0⟩ | ⟨g, cap, cur, rfl, _, h4, h5, h6, h7, h8⟩
  · omega
  · have hl : vs.length = Ms.length * 1 := h1.1
    have hv : vs[j]? = some (vs.getD j undef) := by rw [List.getElem?_eq_getElem (by omega)]; simp [List.getD, show j < vs.length by omega]
    refine ⟨g, cap, b, rfl, ?_, h2 g rfl, k2, k3⟩
    rw [cell_at h4, ← k1, ← hv, ← h8, List.getElem?_take, if_pos (by omega), Array.getElem?_toList]
theorem Sts.own (h : Sts N w v Ms) : ∃ vs, w.ownsRow 0 44 1 v Ms.length vs := by
  obtain ⟨vs, h1, _⟩ := h
  exact ⟨vs, h1⟩
/-- One map more: behind an append. -/
theorem Sts.snoc {g cap b : Nat} {M : MM} (h : Sts N w v Ms) (hb : ¬ N b) (hM : MAt Try.prog 38 38 w b M) (hg : ¬ N' g) (hN : ∀ j, N' j → N j)
    (hw : ∀ vs, w.ownsRow 0 44 1 v Ms.length vs → w'.ownsRow 0 44 1 (.slice (some ⟨g, 0, none⟩) (Ms.length + 1) cap) (Ms.length + 1) (vs ++ [.map (some b)])) (hgr : w.grownBy w' v.ownBlock) : Sts N' w' (.slice (some ⟨g, 0, none⟩) (Ms.length + 1) cap) (Ms ++ [M]) := by
  obtain ⟨vs, h1, h2, h3⟩ := h
  have hvl : vs.length = Ms.length := by have := h1.1; omega
  have hne : ∀ b' M', MAt Try.prog 38 38 w b' M' → some b' ≠ v.ownBlock := fun b' M' hm e => by
    obtain ⟨es, c, hh⟩ := hm.isMap
    obtain ⟨cs, hh'⟩ := orow_lt h1 e.symm
    rw [hh] at hh'; cases hh'
  refine ⟨vs ++ [.map (some b)], by rw [List.length_append]; exact hw vs h1, fun g' e h' => ?_, fun i hi => ?_⟩
  · cases e; exact hg h'
  · rw [List.length_append, List.length_singleton] at hi
    by_cases hlt : i < Ms.length
    · obtain ⟨b', k1, k2, k3⟩ := h3 i hlt
      refine ⟨b', ?_, fun h' => k2 (hN _ h'), ?_⟩
      · rw [← k1]; simp [List.getD, List.getElem?_append_left (show i < vs.length by omega)]
      · rw [show (Ms ++ [M]).getD i [] = Ms.getD i [] from by simp [List.getD, List.getElem?_append_left hlt]]
        exact k3.kept hgr (hne _ _ k3)
    · obtain rfl : i = Ms.length := by omega
      refine ⟨b, ?_, fun h' => hb (hN _ h'), ?_⟩
      · simp [List.getD, ← hvl]
      · rw [show (Ms ++ [M]).getD Ms.length [] = M from by simp [List.getD]]
        exact hM.kept hgr (hne _ _ hM)
/-- The first. -/
theorem Sts.one {b g : Nat} {M : MM} (hb : ¬ N b) (hg : ¬ N g) (hM : MAt Try.prog 38 38 w b M) (hc : w.heap[g]? = some (.cells #[.map (some b)] 44 (0, 0))) : Sts N w (.slice (some ⟨g, 0, none⟩) 1 1) [M] := by
  refine ⟨[.map (some b)], ⟨rfl, .inr ⟨g, 1, _, rfl, Nat.zero_le _, hc, Nat.le_refl _, by unfold maxLen; omega, rfl, rfl⟩⟩, fun g' e h' => ?_, fun i hi => ?_⟩
  · cases e; exact hg h'
  · obtain rfl : i = 0 := by simpa using hi
    exact ⟨b, rfl, hb, hM⟩
end
end Go.Proofs.Ytkdjefnnhanhhaa
