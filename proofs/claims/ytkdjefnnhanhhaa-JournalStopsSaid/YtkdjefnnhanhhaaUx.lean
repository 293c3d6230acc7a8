/- Walks over journal: flush. -/
import Derived.Test.YtkdjefnnhanhhaaZJs
set_option linter.unusedVariables false
namespace Go.Proofs.Ytkdjefnnhanhhaa
open Go Go.RowKit Go.Mem Go.Jn
set_option linter.unusedVariables false

theorem write_nb (t : Tp) (i : Nat) (b : List Nat) : (t.write i b).nb = t.nb := by unfold Tp.write; split <;> rfl
theorem write_size (t : Tp) (i : Nat) (b : List Nat) : (t.write i b).size = t.size := by unfold Tp.write; split <;> rfl
theorem write_ops (t : Tp) (i : Nat) (b : List Nat) : (t.write i b).ops = t.ops + 1 := by unfold Tp.write; split <;> rfl
theorem sync_nb (t : Tp) : t.sync.nb = t.nb := by unfold Tp.sync; split <;> rfl
theorem sync_size (t : Tp) : t.sync.size = t.size := by unfold Tp.sync; split <;> rfl
theorem sync_ops (t : Tp) : t.sync.ops = t.ops + 1 := by unfold Tp.sync; split <;> rfl
theorem Tp.Ok.of {t t' : Tp} (h : t.Ok) (h1 : t'.nb = t.nb) (h2 : t'.size = t.size) : t'.Ok := ⟨by rw [h1]; exact h.n8, by rw [h1]; exact h.nl, by rw [h2]; exact h.s128, by rw [h2]; exact h.sl⟩
theorem per_of {t t' : Tp} (h2 : t'.size = t.size) : t'.per = t.per := by unfold Tp.per; rw [h2]
theorem sz_of {t t' : Tp} (h2 : t'.nb = t.nb) : t'.sz = t.sz := by unfold Tp.sz; rw [h2]
theorem err_cases (t : Tp) : t.err = 0 ∨ t.err = 40 := by unfold Tp.err; split; exact .inr rfl; exact .inl rfl
theorem fail_fields (j : Jo) (e : Int) : (j.fail e).m = j.m ∧ (j.fail e).gen = j.gen ∧ (j.fail e).top = j.top ∧ (j.fail e).area = j.area ∧ (j.fail e).block = j.block ∧ (j.fail e).rows = j.rows ∧ (j.fail e).seq = j.seq ∧ (j.fail e).dirty = j.dirty ∧ (j.fail e).late = j.late := by
  unfold Jo.fail; split <;> exact ⟨rfl, rfl, rfl, rfl, rfl, rfl, rfl, rfl, rfl⟩
section
variable {Q Q' : Nat → Prop} {w w' : World} {J T b : Nat} {j : Jo} {t : Tp} {rv : Value}
/-- The tape is synced. -/
theorem jsync_step (hT : TapeAt Q w T t) (hJ : JAtC Q w J T j b rv) (ho : t.Ok) (hops : t.ops < 5000000000000) :
    Calls Try.prog 98 #[.pointer (some ⟨T, 0, none⟩)] w fun e w' => e = .returned (.int .i64 t.err) ∧ TapeAt Q w' T t.sync ∧ JAtC Q w' J T j b rv ∧ Off Q w w' := by
  refine (tsync_any (tape_part hT hJ) hops (by have := ho.n8; omega) (by have := ho.nl; omega)).mono ?_
  rintro e w1 ⟨rfl, h1, h2⟩
  obtain ⟨k1, k2, k3⟩ := tape_back hT hJ h1 h2
  exact ⟨rfl, k1, k2, k3⟩
set_option maxRecDepth 100000 in
set_option maxHeartbeats 6400000 in
theorem jflush_any {s : JS} (h : JSt Q w J T s) (ho : s.t.Ok) (hj : s.j.Ok s.t) (hops : s.t.ops + 1 < 5000000000000) :
    Calls Try.prog 29 #[.pointer (some ⟨J, 0, none⟩)] w fun e w' => e = .returned (.int .i64 s.flush.1) ∧ JSt Q w' J T s.flush.2 ∧ Off Q w w' := by
  have HW := hid (jwrite_any h ho hj (by omega))
  have hm := meth_sync T
  have H := hid h
  have HO := hid ho
  have HOPS := hid hops
  obtain ⟨hT, b, rv, hJ⟩ := h
  obtain ⟨j, t⟩ := s
  dsimp only at hT hJ
  have c8 := hJ.c8
  obtain ⟨dy, hdy⟩ : ∃ d, j.dirty = d := ⟨_, rfl⟩
  have HDY := hid hdy
  rw [hdy] at c8
  clear hdy hj ho hops
  cases dy with
  | true =>
    have HE := hid (show JS.flush ⟨j, t⟩ = if (JS.write ⟨j, t⟩).1 = 0 then (JS.mk { (JS.write ⟨j, t⟩).2.j with dirty := false } (JS.write ⟨j, t⟩).2.t).syn else JS.write ⟨j, t⟩ from by unfold JS.flush; rw [if_pos HDY.out])
    have HWO := hid (show (JS.write ⟨j, t⟩).2.t.Ok ∧ (JS.write ⟨j, t⟩).2.t.ops < 5000000000000 from ⟨HO.out.of (write_nb _ _ _) (write_size _ _ _), by show (t.write _ _).ops < _; rw [write_ops]; exact HOPS.out⟩)
    obtain ⟨R, hR⟩ : ∃ R, JS.write ⟨j, t⟩ = R := ⟨_, rfl⟩
    rw [hR] at HW HE HWO
    have hr0 : R.1 = 0 ∨ R.1 = 40 := by rw [← hR]; exact err_cases t
    obtain ⟨er, s2⟩ := R
    dsimp only at HW HE HWO hr0
    clear hT hJ hR
    go_enter Try.func29, Try.ntmps29
    go_wp2_with fail
    refine HW.out.mono ?_
    rintro e w1 ⟨rfl, ⟨hT1, b1, rv1, hJ1⟩, hf1⟩
    obtain ⟨j1, t1⟩ := s2
    dsimp only at hT1 hJ1
    rcases hr0 with rfl | rfl
    · have f8 := hJ1.ff 8
      have c9 := hJ1.c8
      have J2 := hJ1.headS (j' := { j1 with dirty := false }) 8 (.bool false) rfl rfl rfl
      have T2 := hT1.setJ hJ1 8 (.bool false)
      have F2 := hf1.setCell (p := ⟨J, 8, none⟩) hJ1.qj (.bool false)
      obtain ⟨W2, hW2⟩ : ∃ W, w1.setCell ⟨J, 8, none⟩ (.bool false) = W := ⟨_, rfl⟩
      rw [hW2] at J2 T2 F2
      have d0 := J2.st
      have HS := hid (jsync_step T2 J2 HWO.out.1 HWO.out.2)
      have HF2 := hid F2
      have HEE := hid (show JS.flush ⟨j, t⟩ = (JS.mk { j1 with dirty := false } t1).syn from HE.out.trans (if_pos rfl))
      obtain ⟨er, her⟩ : ∃ e, t1.err = e := ⟨_, rfl⟩
      have HER := hid her
      rw [her] at HS
      clear hT1 hJ1 hf1 J2 T2 F2 her
      go_wp2_with fail
      refine HS.out.mono ?_
      rintro e w3 ⟨rfl, T3, J3, F3⟩
      have HFA := hid (fail_any T3 J3 er)
      have HF3 := hid F3
      clear T3 J3 F3
      go_wp2_with fail
      refine HFA.out.mono ?_
      rintro e w4 ⟨rfl, T4, J4, F4⟩
      have HT4 := hid T4
      have HJ4 := hid J4
      have HF4 := hid F4
      clear T4 J4 F4
      go_wp2_with fail
      go_ret
      have h8 := HJ4.out
      rw [← HER.out] at h8
      rw [HEE.out]
      refine ⟨?_, ⟨HT4.out, b1, _, h8⟩, (HF2.out.trans HF3.out).trans HF4.out⟩
      show _ = Ending.returned (.int .i64 t1.err); rw [HER.out]; rfl
    · have HEE := hid (show JS.flush ⟨j, t⟩ = (40, ⟨j1, t1⟩) from HE.out.trans (if_neg (by decide)))
      go_wp2_with fail
      go_ret
      rw [HEE.out]
      exact ⟨rfl, ⟨hT1, b1, rv1, hJ1⟩, hf1⟩
  | false =>
    have HE := hid (show JS.flush ⟨j, t⟩ = (JS.mk j t).syn from by unfold JS.flush; rw [if_neg (by show ¬ j.dirty = true; rw [HDY.out]; decide)])
    have d0 := hJ.st
    have HS := hid (jsync_step hT hJ HO.out (Nat.lt_of_succ_lt (show t.ops + 1 < 5000000000000 from HOPS.out)))
    obtain ⟨er, her⟩ : ∃ e, t.err = e := ⟨_, rfl⟩
    have HER := hid her
    rw [her] at HS
    clear hT hJ her HW
    go_enter Try.func29, Try.ntmps29
    go_wp2_with fail
    refine HS.out.mono ?_
    rintro e w3 ⟨rfl, T3, J3, F3⟩
    have HFA := hid (fail_any T3 J3 er)
    have HF3 := hid F3
    clear T3 J3 F3
    go_wp2_with fail
    refine HFA.out.mono ?_
    rintro e w4 ⟨rfl, T4, J4, F4⟩
    have HT4 := hid T4
    have HJ4 := hid J4
    have HF4 := hid F4
    clear T4 J4 F4
    go_wp2_with fail
    go_ret
    have h8 := HJ4.out
    rw [← HER.out] at h8
    rw [HE.out]
    refine ⟨?_, ⟨HT4.out, b, _, h8⟩, HF3.out.trans HF4.out⟩
    show _ = Ending.returned (.int .i64 t.err); rw [HER.out]; rfl
end
end Go.Proofs.Ytkdjefnnhanhhaa
/- A journal, plain: what a checkpoint's loop keeps. -/
namespace Go.Proofs.Ytkdjefnnhanhhaa
open Go Go.RowKit Go.Mem Go.Jn
set_option linter.unusedVariables false

/-- How many records lie in the area. -/
def Jo.cnt (j : Jo) (p : Nat) : Nat := j.block * p + j.rows.length
theorem next_cnt (j : Jo) (p : Nat) : (j.next p).cnt p = j.cnt p := by
  unfold Jo.next
  split
  · rename_i h
    unfold Jo.cnt
    show (j.block + 1) * p + 0 = _
    rw [h, Nat.succ_mul]; omega
  · rfl
theorem push_cnt (j : Jo) (r : Rec) (p : Nat) : (j.push r p).cnt p = j.cnt p + 1 := by
  rw [← next_cnt j p]
  unfold Jo.cnt Jo.push
  show (j.next p).block * p + ((j.next p).rows ++ [_]).length = _
  rw [List.length_append, List.length_singleton]; omega
theorem next_same (j : Jo) (p : Nat) : (j.next p).m = j.m ∧ (j.next p).gen = j.gen ∧ (j.next p).top = j.top ∧ (j.next p).area = j.area ∧ (j.next p).late = j.late ∧ (j.next p).bad = j.bad := by
  unfold Jo.next; split <;> exact ⟨rfl, rfl, rfl, rfl, rfl, rfl⟩
theorem fail_bad (j : Jo) (e : Int) : (j.fail e).bad = if e = 0 then j.bad else e := by unfold Jo.fail; split <;> rfl
theorem fail_ok {j : Jo} {t t' : Tp} {e : Int} (h : j.Ok t) (h1 : t'.nb = t.nb) (h2 : t'.size = t.size) (he : e = 0 ∨ e = 40) : (j.fail e).Ok t' := by
  obtain ⟨f1, f2, f3, f4, f5, f6, f7, f8, f9⟩ := fail_fields j e
  exact {
    fit := by rw [f1]; exact h.fit
    few := by rw [f1]; exact h.few
    gen := by rw [f2]; exact h.gen
    top := by rw [f3]; exact h.top
    area := by rw [f4]; exact h.area
    block := by rw [f5, sz_of h1]; exact h.block
    rows := by rw [f6, per_of h2]; exact h.rows
    rfit := by rw [f6]; exact h.rfit
    seq := by rw [f7]; exact h.seq
    bad := by rw [fail_bad]; split; exact h.bad; exact .inr (by rcases he with e | e; contradiction; exact e) }
theorem Jo.Ok.dirty {j : Jo} {t : Tp} (h : j.Ok t) (d : Bool) : ({ j with dirty := d } : Jo).Ok t := ⟨h.fit, h.few, h.gen, h.top, h.area, h.block, h.rows, h.rfit, h.seq, h.bad⟩
/-- What a put leaves. -/
structure Put (s s' : JS) (e : Int) : Prop where
  m : s'.j.m = s.j.m
  gen : s'.j.gen = s.j.gen
  top : s'.j.top = s.j.top
  area : s'.j.area = s.j.area
  late : s'.j.late = s.j.late
  seq : s'.j.seq = s.j.seq + 1
  nb : s'.t.nb = s.t.nb
  size : s'.t.size = s.t.size
  ops : s'.t.ops ≤ s.t.ops + 1
  ok : s'.j.Ok s'.t
  cnt : s'.j.cnt s.t.per = s.j.cnt s.t.per + 1
  err : e = 0 ∨ e = 40
  bad : s'.j.bad = if e = 0 then s.j.bad else e
theorem put_put {s : JS} {r : Rec} (hj : s.j.Ok s.t) (ht : s.t.Ok) (hroom : s.j.rows.length = s.t.per → s.j.block + 1 < s.t.sz) (hr : (1 ≤ r.kind ∧ r.kind ≤ 4) ∧ r.a < 18446744073709551616 ∧ r.b < 18446744073709551616 ∧ r.c < 18446744073709551616) (hs : s.j.seq + 1 < 1000000000000000000) :
    Put s (s.put r).2 (s.put r).1 := by
  have hp := push_ok hj ht hroom hr hs
  obtain ⟨n1, n2, n3, n4, n5, n6⟩ := next_same s.j s.t.per
  unfold JS.put
  split
  · obtain ⟨f1, f2, f3, f4, f5, f6, f7, f8, f9⟩ := fail_fields { (s.j.push r s.t.per) with dirty := false } s.t.err
    exact {
      m := f1.trans n1
      gen := f2.trans n2
      top := f3.trans n3
      area := f4.trans n4
      late := f9.trans n5
      seq := f7
      nb := write_nb _ _ _
      size := write_size _ _ _
      ops := Nat.le_of_eq (write_ops _ _ _)
      ok := fail_ok (hp.dirty false) (write_nb _ _ _) (write_size _ _ _) (err_cases _)
      cnt := by
        have h := push_cnt s.j r s.t.per
        unfold Jo.cnt at h ⊢
        show (Jo.fail _ _).block * _ + (Jo.fail _ _).rows.length = _
        rw [f5, f6]; exact h
      err := err_cases _
      bad := by show (Jo.fail _ s.t.err).bad = if s.t.err = 0 then _ else s.t.err; rw [fail_bad]; split; exact n6; rfl }
  · exact {
      m := n1
      gen := n2
      top := n3
      area := n4
      late := n5
      seq := rfl
      nb := rfl
      size := rfl
      ops := Nat.le_succ _
      ok := hp
      cnt := push_cnt s.j r s.t.per
      err := .inl rfl
      bad := n6 }
theorem puts_app : ∀ (l : MM) (s s1 : JS) (l2 : MM), s.puts l = (0, s1) → s.puts (l ++ l2) = s1.puts l2
  | [], s, s1, l2, h => by cases h; rfl
  | p :: l, s, s1, l2, h => by
    unfold JS.puts at h
    rw [List.cons_append]
    by_cases e : (s.put (setR p)).1 = 0
    · rw [if_pos e] at h
      show (if (s.put (setR p)).1 = 0 then (s.put (setR p)).2.puts (l ++ l2) else s.put (setR p)) = _
      rw [if_pos e]
      exact puts_app l _ _ l2 h
    · rw [if_neg e] at h
      rw [h] at e; exact absurd rfl e
/-- Behind I puts. -/
structure PI (s0 : JS) (I : Nat) (s : JS) : Prop where
  m : s.j.m = s0.j.m
  gen : s.j.gen = s0.j.gen
  top : s.j.top = s0.j.top
  area : s.j.area = s0.j.area
  late : s.j.late = s0.j.late
  bad : s.j.bad = s0.j.bad
  seq : s.j.seq = s0.j.seq + I
  nb : s.t.nb = s0.t.nb
  size : s.t.size = s0.t.size
  ops : s.t.ops ≤ s0.t.ops + I
  ok : s.j.Ok s.t
  cnt : s.j.cnt s0.t.per = s0.j.cnt s0.t.per + I
  run : s0.puts (s0.j.m.take I) = (0, s)
theorem PI.zero {s0 : JS} (h : s0.j.Ok s0.t) : PI s0 0 s0 := ⟨rfl, rfl, rfl, rfl, rfl, rfl, rfl, rfl, rfl, Nat.le_refl _, h, rfl, by simp [JS.puts]⟩
theorem PI.room {s0 s : JS} {I : Nat} (h : PI s0 I s) (hc : s0.j.cnt s0.t.per = 0) (hp : 0 < s0.t.per) (hI : I < s0.t.sz * s0.t.per) : s.j.rows.length = s.t.per → s.j.block + 1 < s.t.sz := fun he => by
  have h1 := h.cnt
  rw [per_of h.size] at he
  rw [sz_of h.nb]
  unfold Jo.cnt at h1 hc
  rw [he] at h1
  have h2 : (s.j.block + 1) * s0.t.per < s0.t.sz * s0.t.per := by rw [Nat.succ_mul]; omega
  exact Nat.lt_of_mul_lt_mul_right h2
theorem PI.step {s0 s : JS} {I : Nat} {p : Nat × Nat} (h : PI s0 I s) (hp : s0.j.m[I]? = some p) (hP : Put s (s.put (setR p)).2 (s.put (setR p)).1) (he : (s.put (setR p)).1 = 0) : PI s0 (I + 1) (s.put (setR p)).2 := by
  exact {
    m := hP.m.trans h.m
    gen := hP.gen.trans h.gen
    top := hP.top.trans h.top
    area := hP.area.trans h.area
    late := hP.late.trans h.late
    bad := by rw [hP.bad, if_pos he]; exact h.bad
    seq := by rw [hP.seq, h.seq]; omega
    nb := hP.nb.trans h.nb
    size := hP.size.trans h.size
    ops := by have := hP.ops; have := h.ops; omega
    ok := hP.ok
    cnt := by have h1 := hP.cnt; rw [per_of h.size] at h1; rw [h1, h.cnt]; omega
    run := by
      rw [List.take_add_one, hp]
      show s0.puts (s0.j.m.take I ++ [p]) = _
      rw [puts_app _ _ _ _ h.run]
      unfold JS.puts
      rw [if_pos he]; rfl }
theorem PI.stop {s0 s : JS} {I : Nat} {p : Nat × Nat} (h : PI s0 I s) (hp : s0.j.m[I]? = some p) (he : (s.put (setR p)).1 ≠ 0) : s0.puts s0.j.m = s.put (setR p) := by
  have e : s0.j.m = s0.j.m.take I ++ p :: s0.j.m.drop (I + 1) := by
    have hI : I < s0.j.m.length := by
      rcases Nat.lt_or_ge I s0.j.m.length with h | h
      · exact h
      · rw [List.getElem?_eq_none h] at hp; cases hp
    rw [List.getElem?_eq_getElem hI] at hp
    cases hp
    rw [← List.drop_eq_getElem_cons hI, List.take_append_drop]
  rw [e, puts_app _ _ _ _ h.run]
  show (if (s.put (setR p)).1 = 0 then _ else _) = _
  rw [if_neg he]
theorem PI.done {s0 s : JS} (h : PI s0 s0.j.m.length s) : s0.puts s0.j.m = (0, s) := by have := h.run; rwa [List.take_length] at this
theorem getM_at : ∀ {M : MM}, RisM M → ∀ {I : Nat} {p : Nat × Nat}, M[I]? = some p → getM M p.1 = some p.2
  | [], _, I, p, h => by simp at h
  | q :: M, hr, I, p, h => by
    rw [getM_cons]
    obtain ⟨h1, h2⟩ := List.pairwise_cons.1 hr
    cases I with
    | zero => simp at h; subst h; rw [if_pos rfl]
    | succ I =>
      simp at h
      have hm : p ∈ M := List.mem_of_getElem? h
      rw [if_neg (by have := h1 p hm; omega)]
      exact getM_at h2 h
theorem start_ok {j : Jo} {t : Tp} (h : j.Ok t) (ht : t.Ok) (htop : j.top + 1 < 1000000000000000000) : j.start.Ok t := by
  have := ht.sz
  exact ⟨h.fit, h.few, htop, htop, by show 1 - j.area ≤ 1; omega, by show 0 < t.sz; omega, Nat.zero_le _, fun r hr => (by cases hr), h.seq, h.bad⟩
/-- What a tape's operation leaves of the journal. -/
structure Kept (s s' : JS) (e : Int) (n : Nat) : Prop where
  m : s'.j.m = s.j.m
  gen : s'.j.gen = s.j.gen
  top : s'.j.top = s.j.top
  area : s'.j.area = s.j.area
  block : s'.j.block = s.j.block
  rows : s'.j.rows = s.j.rows
  seq : s'.j.seq = s.j.seq
  late : s'.j.late = s.j.late
  nb : s'.t.nb = s.t.nb
  size : s'.t.size = s.t.size
  ops : s'.t.ops ≤ s.t.ops + n
  err : e = 0 ∨ e = 40
  bad : s'.j.bad = if e = 0 then s.j.bad else e
theorem kept_of (s : JS) (t' : Tp) (h1 : t'.nb = s.t.nb) (h2 : t'.size = s.t.size) (h3 : t'.ops = s.t.ops + 1) : Kept s ⟨s.j.fail s.t.err, t'⟩ s.t.err 1 := by
  obtain ⟨f1, f2, f3, f4, f5, f6, f7, f8, f9⟩ := fail_fields s.j s.t.err
  exact ⟨f1, f2, f3, f4, f5, f6, f7, f9, h1, h2, Nat.le_of_eq h3, err_cases _, fail_bad _ _⟩
theorem wr_kept (s : JS) (i : Nat) (b : List Nat) : Kept s (s.wr i b).2 (s.wr i b).1 1 := kept_of s _ (write_nb _ _ _) (write_size _ _ _) (write_ops _ _ _)
theorem syn_kept (s : JS) : Kept s s.syn.2 s.syn.1 1 := kept_of s _ (sync_nb _) (sync_size _) (sync_ops _)
theorem Kept.trans {a b c : JS} {e : Int} {n m : Nat} (h : Kept a b 0 n) (k : Kept b c e m) : Kept a c e (n + m) := by
  exact ⟨k.m.trans h.m, k.gen.trans h.gen, k.top.trans h.top, k.area.trans h.area, k.block.trans h.block, k.rows.trans h.rows, k.seq.trans h.seq, k.late.trans h.late, k.nb.trans h.nb, k.size.trans h.size, by have := h.ops; have := k.ops; omega, k.err, by rw [k.bad]; split; exact h.bad; rfl⟩
theorem Kept.more {a b : JS} {e : Int} {n m : Nat} (h : Kept a b e n) (hn : n ≤ m) : Kept a b e m := { h with ops := by have := h.ops; omega }
theorem flush_kept (s : JS) : Kept s s.flush.2 s.flush.1 2 := by
  unfold JS.flush
  split
  · have hw : Kept s s.write.2 s.write.1 1 := wr_kept _ _ _
    split
    · rename_i h0
      rw [h0] at hw
      have h1 : Kept s ⟨{ s.write.2.j with dirty := false }, s.write.2.t⟩ 0 1 := ⟨hw.m, hw.gen, hw.top, hw.area, hw.block, hw.rows, hw.seq, hw.late, hw.nb, hw.size, hw.ops, hw.err, hw.bad⟩
      exact h1.trans (syn_kept _)
    · exact hw.more (by omega)
  · exact (syn_kept s).more (by omega)
theorem Kept.ok {s s' : JS} {e : Int} {n : Nat} (h : Kept s s' e n) (hj : s.j.Ok s.t) : s'.j.Ok s'.t := ⟨by rw [h.m]; exact hj.fit, by rw [h.m]; exact hj.few, by rw [h.gen]; exact hj.gen, by rw [h.top]; exact hj.top, by rw [h.area]; exact hj.area, by rw [h.block, sz_of h.nb]; exact hj.block, by rw [h.rows, per_of h.size]; exact hj.rows, by rw [h.rows]; exact hj.rfit, by rw [h.seq]; exact hj.seq, by
  rw [h.bad]; split; exact hj.bad; rcases h.err with e | e; contradiction; exact .inr e⟩
theorem check_a {s s2 : JS} {e : Int} (h : (JS.mk s.j.start s.t).puts s.j.m = (e, s2)) (he : e ≠ 0) : s.checkpoint = (e, s2) := by
  unfold JS.checkpoint; simp only [h]; rw [if_pos he]
theorem check_b {s sN s2 : JS} {e : Int} (h : (JS.mk s.j.start s.t).puts s.j.m = (0, sN)) (h2 : sN.flush = (e, s2)) (he : e ≠ 0) : s.checkpoint = (e, s2) := by
  unfold JS.checkpoint; simp only [h, h2]; rw [if_neg (by decide), if_pos he]
theorem check_c {s sN s2 s3 : JS} {e : Int} (h : (JS.mk s.j.start s.t).puts s.j.m = (0, sN)) (h2 : sN.flush = (0, s2)) (h3 : s2.root = (e, s3)) (he : e ≠ 0) : s.checkpoint = (e, s3) := by
  unfold JS.checkpoint; simp only [h, h2, h3]; rw [if_neg (by decide), if_neg (by decide), if_pos he]
theorem check_d {s sN s2 s3 : JS} (h : (JS.mk s.j.start s.t).puts s.j.m = (0, sN)) (h2 : sN.flush = (0, s2)) (h3 : s2.root = (0, s3)) : s.checkpoint = s3.syn := by
  unfold JS.checkpoint; simp only [h, h2, h3]; rw [if_neg (by decide), if_neg (by decide), if_neg (by decide)]
end Go.Proofs.Ytkdjefnnhanhhaa
