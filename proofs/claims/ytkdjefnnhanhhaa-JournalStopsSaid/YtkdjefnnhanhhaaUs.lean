/- A journal at power on, plain: how many of its tape's operations a set takes; JournalStops. -/
import Derived.Test.YtkdjefnnhanhhaaZLkh
import Derived.Test.YtkdjefnnhanhhaaUt
import Derived.Outline
set_option linter.unusedVariables false
namespace Go.Proofs.Ytkdjefnnhanhhaa
open Go Go.RowKit Go.Mem Go.Jn
set_option linter.unusedVariables false

theorem put_ops {s : JS} {r : Rec} (hp : 0 < s.t.per) (hr : s.j.rows.length ≤ s.t.per) : (s.put r).2.t.ops + s.j.cnt s.t.per / s.t.per = s.t.ops + (s.j.cnt s.t.per + 1) / s.t.per := by
  have h1 := next_rows s.j s.t.per hr hp
  have h2 := push_cnt s.j r s.t.per
  have h3 : (s.j.push r s.t.per).rows.length = (s.j.next s.t.per).rows.length + 1 := by unfold Jo.push; simp
  have h4 : (s.j.push r s.t.per).block = (s.j.next s.t.per).block := rfl
  obtain ⟨p, hpe⟩ : ∃ p, s.t.per = p := ⟨_, rfl⟩
  obtain ⟨b, hb⟩ : ∃ b, (s.j.next s.t.per).block = b := ⟨_, rfl⟩
  obtain ⟨l, hl⟩ : ∃ b, (s.j.next s.t.per).rows.length = b := ⟨_, rfl⟩
  have h5 : s.j.cnt s.t.per + 1 = b * p + (l + 1) := by
    rw [← h2]; unfold Jo.cnt; rw [h3, h4, hb, hl, hpe]
  have h6 : s.j.cnt s.t.per = b * p + l := by omega
  have hd : (s.j.cnt s.t.per) / s.t.per = b := by
    rw [hpe] at h6 ⊢
    rw [h6, Nat.mul_comm, Nat.mul_add_div (by omega), Nat.div_eq_of_lt (by omega)]; omega
  unfold JS.put
  split
  · rename_i he
    rw [h3, hl] at he
    have hd2 : (s.j.cnt s.t.per + 1) / s.t.per = b + 1 := by
      rw [h5, hpe, show l + 1 = p by omega, show b * p + p = (b + 1) * p by rw [Nat.add_mul]; omega, Nat.mul_div_cancel _ (by omega)]
    have : ((JS.mk { (s.j.push r s.t.per) with dirty := false } s.t).write).2.t.ops = s.t.ops + 1 := write_ops _ _ _
    rw [this, hd, hd2]
    omega
  · rename_i he
    rw [h3, hl] at he
    have hd2 : (s.j.cnt s.t.per + 1) / s.t.per = b := by
      rw [h5, hpe, Nat.mul_comm, Nat.mul_add_div (by omega), Nat.div_eq_of_lt (by omega)]; omega
    show s.t.ops + _ = _
    rw [hd, hd2]
theorem cnt_le {j : Jo} {t : Tp} (h : j.Ok t) : j.cnt t.per ≤ t.sz * t.per := by
  have h1 : (j.block + 1) * t.per ≤ t.sz * t.per := Nat.mul_le_mul_right _ h.block
  rw [Nat.succ_mul] at h1
  have := h.rows
  unfold Jo.cnt
  omega
theorem cnt_room {j : Jo} {t : Tp} (hc : j.cnt t.per < t.sz * t.per) : j.rows.length = t.per → j.block + 1 < t.sz := fun he => by
  unfold Jo.cnt at hc
  rw [he] at hc
  have h2 : (j.block + 1) * t.per < t.sz * t.per := by rw [Nat.succ_mul]; omega
  exact Nat.lt_of_mul_lt_mul_right h2
/-- Keys that are put behind one another at power on. -/
structure Puts (s s' : JS) (n : Nat) : Prop where
  on : On s'.t
  ok : s'.j.Ok s'.t
  bad : s'.j.bad = s.j.bad
  m : s'.j.m = s.j.m
  gen : s'.j.gen = s.j.gen
  top : s'.j.top = s.j.top
  late : s'.j.late = s.j.late
  nb : s'.t.nb = s.t.nb
  size : s'.t.size = s.t.size
  seq : s'.j.seq = s.j.seq + n
  cnt : s'.j.cnt s.t.per = s.j.cnt s.t.per + n
  ops : s'.t.ops + s.j.cnt s.t.per / s.t.per = s.t.ops + (s.j.cnt s.t.per + n) / s.t.per
theorem put_fine {s : JS} {r : Rec} (hO : On s.t) (hj : s.j.Ok s.t) (ht : s.t.Ok) (hc : s.j.cnt s.t.per < s.t.sz * s.t.per) (hs : s.j.seq + 1 < 1000000000000000000)
    (hr : (1 ≤ r.kind ∧ r.kind ≤ 4) ∧ r.a < 18446744073709551616 ∧ r.b < 18446744073709551616 ∧ r.c < 18446744073709551616) : (s.put r).1 = 0 ∧ Puts s (s.put r).2 1 := by
  have hp := ht.per
  obtain ⟨o1, o2⟩ := on_put hO r
  have h := put_put hj ht (cnt_room hc) hr hs
  have h2 := put_ops (s := s) (r := r) (by omega) hj.rows
  refine ⟨o1, ⟨o2, h.ok, ?_, h.m, h.gen, h.top, h.late, h.nb, h.size, h.seq, h.cnt, h2⟩⟩
  rw [h.bad, o1, if_pos rfl]
theorem Puts.trans {a b c : JS} {n m : Nat} (h : Puts a b n) (k : Puts b c m) : Puts a c (n + m) := by
  have hp : b.t.per = a.t.per := per_of h.size
  have kc := k.cnt
  have ko := k.ops
  rw [hp] at kc ko
  refine ⟨k.on, k.ok, k.bad.trans h.bad, k.m.trans h.m, k.gen.trans h.gen, k.top.trans h.top, k.late.trans h.late, k.nb.trans h.nb, k.size.trans h.size, ?_, ?_, ?_⟩
  · rw [k.seq, h.seq]; omega
  · rw [kc, h.cnt]; omega
  · have ho := h.ops
    rw [h.cnt] at ko
    rw [show a.j.cnt a.t.per + (n + m) = a.j.cnt a.t.per + n + m by omega]
    omega
theorem puts_fine : ∀ (l : MM) (s : JS), On s.t → s.j.Ok s.t → s.t.Ok → s.j.cnt s.t.per + l.length ≤ s.t.sz * s.t.per → s.j.seq + l.length < 1000000000000000000 → (∀ p ∈ l, p.1 < 18446744073709551616 ∧ p.2 < 18446744073709551616) → (s.puts l).1 = 0 ∧ Puts s (s.puts l).2 l.length
  | [], s, hO, hj, ht, _, _, _ => ⟨rfl, ⟨hO, hj, rfl, rfl, rfl, rfl, rfl, rfl, rfl, rfl, rfl, rfl⟩⟩
  | p :: l, s, hO, hj, ht, hc, hs, hf => by
    rw [List.length_cons] at hc hs ⊢
    have hp := hf p (by simp)
    obtain ⟨h1, h2⟩ := put_fine (r := setR p) hO hj ht (by omega) (by omega) ⟨⟨by show 1 ≤ 1; omega, by show 1 ≤ 4; omega⟩, hp.1, hp.2, by show 0 < _; omega⟩
    have hpp : (s.put (setR p)).2.t.per = s.t.per := per_of h2.size
    have hss : (s.put (setR p)).2.t.sz = s.t.sz := sz_of h2.nb
    obtain ⟨h3, h4⟩ := puts_fine l (s.put (setR p)).2 h2.on h2.ok (ht.of h2.nb h2.size) (by rw [hpp, hss, h2.cnt]; omega) (by rw [h2.seq]; omega) (fun q hq => hf q (by simp [hq]))
    have he : s.puts (p :: l) = (s.put (setR p)).2.puts l := by
      show (if (s.put (setR p)).1 = 0 then _ else _) = _
      rw [if_pos h1]
    rw [he]
    refine ⟨h3, ?_⟩
    have := h2.trans h4
    rwa [Nat.add_comm 1] at this
/-- A checkpoint at power on. -/
theorem check_fine {s : JS} (hO : On s.t) (hj : s.j.Ok s.t) (ht : s.t.Ok) (hb : s.j.bad = 0) (hm : s.j.m.length ≤ s.t.sz * s.t.per) (hs : s.j.seq + s.j.m.length < 1000000000000000000) (htop : s.j.top + 1 < 1000000000000000000) :
    s.checkpoint.1 = 0 ∧ On s.checkpoint.2.t ∧ s.checkpoint.2.j.Ok s.checkpoint.2.t ∧ s.checkpoint.2.j.bad = 0 ∧ s.checkpoint.2.j.m = s.j.m ∧ s.checkpoint.2.j.gen = s.j.top + 1 ∧ s.checkpoint.2.j.top = s.j.top + 1 ∧ s.checkpoint.2.j.late = false ∧ s.checkpoint.2.t.nb = s.t.nb ∧ s.checkpoint.2.t.size = s.t.size ∧
      s.checkpoint.2.j.seq = s.j.seq + s.j.m.length ∧ s.checkpoint.2.j.cnt s.t.per = s.j.m.length ∧ s.checkpoint.2.t.ops ≤ s.t.ops + s.j.m.length / s.t.per + 4 := by
  have hp := ht.per
  have hst : (JS.mk s.j.start s.t).j.cnt s.t.per = 0 := by show 0 * s.t.per + 0 = 0; omega
  obtain ⟨a1, a2⟩ := puts_fine s.j.m (JS.mk s.j.start s.t) hO (start_ok hj ht htop) ht (by rw [hst]; show 0 + _ ≤ s.t.sz * s.t.per; omega) (by show s.j.seq + _ < _; omega) hj.fit.2
  obtain ⟨sN, hN⟩ : ∃ x, ((JS.mk s.j.start s.t).puts s.j.m).2 = x := ⟨_, rfl⟩
  rw [hN] at a2
  have e1 : (JS.mk s.j.start s.t).puts s.j.m = (0, sN) := by rw [← hN, ← a1]
  obtain ⟨b1, b2⟩ := on_flush a2.on
  have kb := flush_kept sN
  obtain ⟨s2, h2⟩ : ∃ x, sN.flush.2 = x := ⟨_, rfl⟩
  rw [h2] at kb b2
  rw [b1] at kb
  have e2 : sN.flush = (0, s2) := by rw [← h2, ← b1]
  obtain ⟨c1, c2⟩ := on_wr b2 (s2.j.gen % 2) (rootB s2.t.size s2.j.gen s2.j.area)
  have kc := wr_kept s2 (s2.j.gen % 2) (rootB s2.t.size s2.j.gen s2.j.area)
  obtain ⟨s3, h3⟩ : ∃ x, (s2.wr (s2.j.gen % 2) (rootB s2.t.size s2.j.gen s2.j.area)).2 = x := ⟨_, rfl⟩
  rw [h3] at kc c2
  rw [c1] at kc
  have e3 : s2.root = (0, s3) := by unfold JS.root; rw [← h3, ← c1]
  obtain ⟨d1, d2⟩ := on_syn c2
  have kd := syn_kept s3
  rw [d1] at kd
  have e4 : s.checkpoint = s3.syn := check_d e1 e2 e3
  rw [e4]
  have K := (kb.trans kc).trans kd
  have hcnt : s3.syn.2.j.cnt s.t.per = sN.j.cnt s.t.per := by unfold Jo.cnt; rw [K.block, K.rows]
  have h9 := a2.ops
  rw [hst] at h9
  have h10 := K.ops
  refine ⟨d1, d2, K.ok a2.ok, ?_, K.m.trans a2.m, K.gen.trans a2.gen, K.top.trans a2.top, K.late.trans a2.late, K.nb.trans a2.nb, K.size.trans a2.size, K.seq.trans a2.seq, ?_, ?_⟩
  · rw [K.bad, if_pos rfl, a2.bad]; exact hb
  · rw [hcnt, a2.cnt, hst]; omega
  · have e5 : (JS.mk s.j.start s.t).t.per = s.t.per := rfl
    have e6 : (JS.mk s.j.start s.t).t.ops = s.t.ops := rfl
    rw [e5, e6, Nat.zero_add, Nat.zero_div] at h9
    omega
/-- A journal of JournalStops, behind so many sets. -/
structure Sx (s : JS) (N : Nat) : Prop where
  nb : s.t.nb = 40
  size : s.t.size = 400
  on : On s.t
  ok : s.j.Ok s.t
  bad : s.j.bad = 0
  few : s.j.m.length ≤ 95
  acc : ∃ c, ((s.j.gen = 0 ∨ s.j.late = true) → c = 0) ∧ s.j.top ≤ c + 1 ∧ s.j.seq ≤ 20000 + 190 * c + s.j.cnt 10 ∧ s.t.ops ≤ 20000 + 23 * c + s.j.cnt 10 / 10 ∧ 96 * c + s.j.cnt 10 ≤ N + 191
section
variable {s : JS} {N : Nat}
theorem Sx.tok (h : Sx s N) : s.t.Ok := ⟨by rw [h.nb]; omega, by rw [h.nb]; omega, by rw [h.size]; omega, by rw [h.size]; omega⟩
theorem Sx.per (h : Sx s N) : s.t.per = 10 := by unfold Tp.per; rw [h.size]
theorem Sx.sz (h : Sx s N) : s.t.sz = 19 := by unfold Tp.sz; rw [h.nb]
theorem Sx.room (h : Sx s N) : s.t.room = 95 := by unfold Tp.room; rw [h.per, h.sz]; rfl
theorem Sx.cnt (h : Sx s N) : s.j.cnt 10 ≤ 190 := by
  have := cnt_le h.ok
  rwa [h.per, h.sz] at this
theorem Sx.can (h : Sx s N) (hN : N ≤ 17592186044416) : s.Can := by
  obtain ⟨c, _, h1, h2, h3, h4⟩ := h.acc
  have hc := h.cnt
  have hf := h.few
  exact ⟨h.tok, h.ok, by omega, by omega, by omega, by rw [h.sz, h.per]; omega⟩
theorem Sx.more (h : Sx s N) {M : Nat} (hM : N ≤ M) : Sx s M := by
  obtain ⟨c, h0, h1, h2, h3, h4⟩ := h.acc
  exact ⟨h.nb, h.size, h.on, h.ok, h.bad, h.few, c, h0, h1, h2, h3, by omega⟩
/-- Of a journal that was opened on a new tape. -/
theorem Sx.new {A : MM → Prop} (hI : Inv s A 1) (hO : On s.t) (h1 : s.t.nb = 40) (h2 : s.t.size = 400) (hm : s.j.m = []) : Sx s 0 := by
  have hp : s.t.per = 10 := by unfold Tp.per; rw [h2]
  have hz : s.t.sz = 19 := by unfold Tp.sz; rw [h1]
  have hc := cnt_le hI.ok
  rw [hp, hz] at hc
  have := hI.ops
  have := hI.seq
  have := hI.top
  exact ⟨h1, h2, hO, hI.ok, hI.bad, by rw [hm]; exact Nat.zero_le _, 0, fun _ => rfl, by omega, by omega, by omega, by omega⟩
/-- A key is set. -/
theorem Sx.set (h : Sx s N) (hN : N ≤ 17592186044416) (k v : Nat) (hk : k < 18446744073709551616) (hv : v < 18446744073709551616) (hl : s.j.m.length < 95) :
    (s.set k v).1 = 0 ∧ Sx (s.set k v).2 (N + 1) ∧ (s.set k v).2.j.m = putM k v s.j.m := by
  obtain ⟨c, h0, h1, h2, h3, h4⟩ := h.acc
  have hcb := h.cnt
  have hr := h.room
  obtain ⟨ap1, ap2, ap3⟩ := apply_ok (r := ⟨1, 0, k, v, 0⟩) h.ok ⟨hk, hv⟩ rfl (by have := h.few; omega)
  have hm : (s.j.apply ⟨1, 0, k, v, 0⟩).m = putM k v s.j.m := rfl
  have hce : (s.j.apply ⟨1, 0, k, v, 0⟩).cnt 10 = s.j.cnt 10 := rfl
  have hml : (putM k v s.j.m).length ≤ 95 := by
    have := len_putM k v s.j.m
    omega
  unfold JS.set
  rw [if_neg (by rw [hr]; rintro ⟨_, h', _⟩; omega)]
  unfold JS.note
  rw [if_neg (by rw [h.bad]; decide)]
  split
  · rename_i hf
    obtain ⟨c1, c2, c3, c4, c5, c6, c7, c8, c9, c10, c11, c12, c13⟩ := check_fine (s := JS.mk (s.j.apply ⟨1, 0, k, v, 0⟩) s.t) h.on ap1 h.tok h.bad (by rw [hm]; show _ ≤ s.t.sz * s.t.per; rw [h.sz, h.per]; omega) (by rw [hm]; show (s.j.apply ⟨1, 0, k, v, 0⟩).seq + _ < _; rw [ap3]; omega) (by show s.j.top + 1 < _; omega)
    have e1 : (JS.mk (s.j.apply ⟨1, 0, k, v, 0⟩) s.t).t.per = 10 := h.per
    rw [e1] at c12 c13
    rw [hm] at c5 c11 c12 c13
    have e2 : (JS.mk (s.j.apply ⟨1, 0, k, v, 0⟩) s.t).j.seq = s.j.seq := ap3
    have e3 : (JS.mk (s.j.apply ⟨1, 0, k, v, 0⟩) s.t).j.top = s.j.top := rfl
    have e4 : (JS.mk (s.j.apply ⟨1, 0, k, v, 0⟩) s.t).t.ops = s.t.ops := rfl
    rw [e2] at c11
    rw [e3] at c6 c7
    rw [e4] at c13
    refine ⟨c1, ⟨c9.trans h.nb, c10.trans h.size, c2, c3, c4, by rw [c5]; exact hml, c + 1, ?_, by omega, by omega, by omega, ?_⟩, c5⟩
    · intro h'
      rcases h' with h' | h'
      · omega
      · rw [c8] at h'; cases h'
    · rw [c12]
      unfold JS.full at hf
      simp only [Bool.or_eq_true, Bool.and_eq_true, decide_eq_true_eq] at hf
      rcases hf with (hf | hf) | hf
      · have := h0 (.inl hf); omega
      · have := h0 (.inr hf); omega
      · have e5 : s.j.block = 18 := by have := hf.1; rw [show (JS.mk (s.j.apply ⟨1, 0, k, v, 0⟩) s.t).t.sz = 19 from h.sz] at this; exact this
        have e6 : s.j.rows.length = 10 := by have := hf.2; rw [e1] at this; exact this
        have : s.j.cnt 10 = 190 := by unfold Jo.cnt; rw [e5, e6]
        omega
  · rename_i hf
    have hf' : (JS.mk (s.j.apply ⟨1, 0, k, v, 0⟩) s.t).full = false := by simpa using hf
    have hnf := hf'
    unfold JS.full at hf'
    simp only [Bool.or_eq_false_iff, Bool.and_eq_false_iff, decide_eq_false_iff_not] at hf'
    have hlt : s.j.cnt 10 < 190 := by
      have h5 := h.ok.block
      have h6 := h.ok.rows
      rw [h.sz] at h5
      rw [h.per] at h6
      unfold Jo.cnt
      rcases hf'.2 with h' | h'
      · have : ¬ s.j.block = 18 := fun e => h' (by rw [show (JS.mk (s.j.apply ⟨1, 0, k, v, 0⟩) s.t).t.sz = 19 from h.sz]; exact e)
        omega
      · have : ¬ s.j.rows.length = 10 := fun e => h' (by rw [show (JS.mk (s.j.apply ⟨1, 0, k, v, 0⟩) s.t).t.per = 10 from h.per]; exact e)
        omega
    obtain ⟨p1, p2⟩ := put_fine (s := JS.mk (s.j.apply ⟨1, 0, k, v, 0⟩) s.t) (r := ⟨1, 0, k, v, 0⟩) h.on ap1 h.tok (by
      rw [show (JS.mk (s.j.apply ⟨1, 0, k, v, 0⟩) s.t).t.per = 10 from h.per, show (JS.mk (s.j.apply ⟨1, 0, k, v, 0⟩) s.t).t.sz = 19 from h.sz]
      show s.j.cnt 10 < 190
      exact hlt) (by show (s.j.apply ⟨1, 0, k, v, 0⟩).seq + 1 < _; rw [ap3]; omega) ⟨⟨by show 1 ≤ 1; omega, by show 1 ≤ 4; omega⟩, hk, hv, by show 0 < _; omega⟩
    have pc := p2.cnt
    have po := p2.ops
    have ps := p2.seq
    have e1 : (JS.mk (s.j.apply ⟨1, 0, k, v, 0⟩) s.t).t.per = 10 := h.per
    rw [e1] at pc po
    have e2 : (JS.mk (s.j.apply ⟨1, 0, k, v, 0⟩) s.t).j.seq = s.j.seq := ap3
    have e4 : (JS.mk (s.j.apply ⟨1, 0, k, v, 0⟩) s.t).t.ops = s.t.ops := rfl
    have e5 : (JS.mk (s.j.apply ⟨1, 0, k, v, 0⟩) s.t).j.cnt 10 = s.j.cnt 10 := rfl
    have e6 : (JS.mk (s.j.apply ⟨1, 0, k, v, 0⟩) s.t).j.top = s.j.top := rfl
    rw [e5] at pc po
    rw [e4] at po
    rw [e2] at ps
    refine ⟨p1, ⟨p2.nb.trans h.nb, p2.size.trans h.size, p2.on, p2.ok, p2.bad.trans h.bad, by rw [p2.m]; exact hml, c, ?_, by rw [p2.top, e6]; exact h1, by omega, by omega, by omega⟩, p2.m⟩
    intro h'
    refine h0 ?_
    rcases h' with h' | h'
    · left; rw [p2.gen] at h'; exact h'
    · right; rw [p2.late] at h'; exact h'
end
end Go.Proofs.Ytkdjefnnhanhhaa
/- Walks over the journal's laws: JournalStops: a key is set in the journal and in its model. -/
namespace Go.Proofs.Ytkdjefnnhanhhaa
open Go Go.RowKit Go.Mem Go.Jn Go.Shelf
set_option linter.unusedVariables false

/-- Each value is three times its key. -/
def V3 (M : MM) : Prop := ∀ p ∈ M, p.2 = p.1 * 3 % 18446744073709551616
theorem V3.nil : V3 [] := fun p hp => by cases hp
theorem V3.put {M : MM} (h : V3 M) (k : Nat) : V3 (putM k (k * 3 % 18446744073709551616) M) := fun p hp => by
  rcases mem_insM.1 hp with rfl | hp
  · rfl
  · exact h p (mem_delM.1 hp).1
structure Px (w wr : World) (J T mb : Nat) (s : JS) (N : Nat) : Prop where
  st : JSt (fun j => T ≤ j ∧ j ≠ mb) wr J T s
  x : Sx s N
  m : MAt Try.prog 38 38 wr mb s.j.m
  b : Below w.heap.size w wr
  h : w.heap.size ≤ T ∧ T ≠ mb ∧ w.heap.size ≤ mb
section
variable {w wr : World} {J T mb N : Nat} {s : JS}
theorem Px.more (h : Px w wr J T mb s N) {m : Nat} (hm : N ≤ m) : Px w wr J T mb s m := ⟨h.st, h.x.more hm, h.m, h.b, h.h⟩
theorem Px.below (h : Px w wr J T mb s N) {w' : World} (hb : Below wr.heap.size wr w') : Px w w' J T mb s N :=
  ⟨h.st.below hb, h.x, h.m.below hb, h.b.trans (hb.mono h.b.size), h.h⟩
/-- The model is made. -/
theorem Px.made (hS : JSt (fun j => T ≤ j) wr J T s) (hx : Sx s N) (hb : Below w.heap.size w wr) (hT : w.heap.size ≤ T) (hm : s.j.m = []) : Px w (wr.alloc (.map #[] 0)) J T wr.heap.size s N := by
  have hTl := (jst_T hS).2
  refine ⟨hS.shiftS (fun j hj _ => alloc_old hj) (fun j hj h => ⟨h, by omega⟩) (fun j hj => ?_), hx, ?_, hb.alloc hb.size _, hT, by omega, hb.size⟩
  · rw [World.size_alloc] at hj
    exact ⟨by omega, by omega⟩
  · rw [hm]; exact MAt.nil _ _ _ _
theorem Px.off (h : Px w wr J T mb s N) {w' : World} (hF : Off (fun i => (T ≤ i ∧ i ≠ mb) ∨ i = mb) wr w') : Below w.heap.size w w' :=
  h.b.trans (hF.below h.b.size (fun j hj h' => by have := h.h; omega))
theorem Px.room (h : Px w wr J T mb s N) :
    Calls Try.prog 13 #[.pointer (some ⟨J, 0, none⟩)] wr fun r w' => r = .returned (.int .i64 95) ∧ ∃ n, w' = wr.drewN n := by
  obtain ⟨hT, b, rv, hJ⟩ := h.st
  have := room_any hT hJ h.x.tok
  rw [h.x.room] at this
  exact this
/-- A key is set. -/
theorem Px.set (h : Px w wr J T mb s N) (hN : N ≤ 17592186044416) (k v : Nat) (hk : k < 18446744073709551616) (hv : v < 18446744073709551616) (hl : s.j.m.length < 95) :
    Calls Try.prog 14 #[.pointer (some ⟨J, 0, none⟩), .int .u64 (k : Nat), .int .u64 (v : Nat)] wr fun e w' => ∃ s', e = .returned (.int .i64 0) ∧ s'.j.m = putM k v s.j.m ∧
      ∃ es c, (Instr.mapUpdate 44 (.map (some mb)) (.int .u64 (k : Nat)) (.int .u64 (v : Nat))).run Try.prog w' = .ok () (ChangeMaps.setBlock w' mb (.map es c)) ∧ Px w (ChangeMaps.setBlock w' mb (.map es c)) J T mb s' (N + 1) := by
  obtain ⟨k1, k2, k3⟩ := h.x.set hN k v hk hv hl
  refine (jset_any h.st (h.x.can hN) k v hk hv).mono ?_
  rintro e w' ⟨rfl, hS, hF⟩
  have hM := h.m.same (hF.block mb h.m.lt (fun h' => h'.2 rfl))
  obtain ⟨es, c, h1, h2, h3⟩ := hM.upd tm_u64 hk hv (by unfold maxLen; omega)
  have hO : Off (fun i => i = mb) w' (ChangeMaps.setBlock w' mb (.map es c)) := off_of_grown h3 (fun j e => (Option.some.inj e).symm)
  refine ⟨_, by rw [k1], k3, es, c, h1, hS.keepM (fun h' => h'.2 rfl) hO, k2, by rw [k3]; exact h2, ?_, h.h⟩
  exact h.off ((hF.imp (fun i _ h' => .inl h')).trans (hO.imp (fun i _ h' => .inr h')))
end
end Go.Proofs.Ytkdjefnnhanhhaa
/- Walks over the journal's laws: JournalStops: keys are set. -/
namespace Go.Proofs.Ytkdjefnnhanhhaa
open Go Go.RowKit Go.Mem Go.Jn
set_option linter.unusedVariables false

noncomputable def lpSets : Code := (Try.f5.body.bind (loopOf 10)).getD .skip
theorem absN_lt {z : Int} (h : (Lit.int .i64 z).wf = true) : absN' z < 9223372036854775808 := by
  have hb : -9223372036854775808 ≤ z ∧ z ≤ 9223372036854775807 := by
    simp only [Lit.wf, Bool.and_eq_true, decide_eq_true_eq] at h
    exact ⟨h.1, h.2⟩
  unfold absN'
  split <;> omega
set_option maxRecDepth 1000000 in
set_option maxHeartbeats 12800000 in
theorem stops_sets (J T mb zlen zcap : Nat) (zp : Option Addr) (zs : List Int) (w0 W : World) (s0 : JS) (df : List Deferred) (Qp : Exit → Act → World → Prop) (c1 c2 c3 c4 c5 c6 c8 c11 c12 c13 c14 c15 c16 c17 c18 c19 c20 c21 c22 c23 c24 c25 c26 c27 c28 c29 c30 c31 c32 c33 c34 c35 c36 c37 c38 c39 c40 c41 c42 c43 c44 c45 c46 c47 c48 c49 c50 c51 c52 c53 c54 c55 c56 c57 c58 c59 c60 c61 c62 c63 c64 c65 c66 c67 c68 c69 c70 c71 c72 c73 c74 c75 c76 c77 c78 c79 c80 c81 c82 c83 c84 c85 c86 c87 c88 c89 c90 c91 c92 c93 c94 c95 c96 c97 c98 c99 c100 c101 c102 c103 c104 c105 c106 c107 c108 c109 c110 c111 c112 c113 c114 c115 c116 c117 c118 c119 c120 : Value)
    (hz : RdI .i64 w0 (.slice zp zlen zcap) zs) (hzl : zs.length = zlen) (hzw : ∀ y ∈ zs, (Lit.int .i64 y).wf = true) (hzb : zlen ≤ 17592186044416)
    (hP : Px w0 W J T mb s0 0) (hV : V3 s0.j.m)
    (hexit : ∀ (a : Act) (iv : Value) (wr : World) (s : JS), (∃ u11 u36 u37 u38 u39 u40 u41 u42 u43 u44 u45 u46 u47 u48 u49 u50 u51 u52 u53 u54 u55 u56 u57 u58 u59 u60 u61 u62 u63 u64 : Value, a = ⟨List.toArray ((.slice zp zlen zcap) :: c1 :: c2 :: c3 :: c4 :: c5 :: c6 :: (.pointer (some ⟨J, 0, none⟩)) :: c8 :: (.map (some mb)) :: (iv) :: (u11) :: c12 :: c13 :: c14 :: c15 :: c16 :: c17 :: c18 :: c19 :: c20 :: c21 :: c22 :: c23 :: c24 :: c25 :: c26 :: c27 :: c28 :: c29 :: c30 :: c31 :: c32 :: c33 :: c34 :: c35 :: (u36) :: (u37) :: (u38) :: (u39) :: (u40) :: (u41) :: (u42) :: (u43) :: (u44) :: (u45) :: (u46) :: (u47) :: (u48) :: (u49) :: (u50) :: (u51) :: (u52) :: (u53) :: (u54) :: (u55) :: (u56) :: (u57) :: (u58) :: (u59) :: (u60) :: (u61) :: (u62) :: (u63) :: (u64) :: c65 :: c66 :: c67 :: c68 :: c69 :: c70 :: c71 :: c72 :: c73 :: c74 :: c75 :: c76 :: c77 :: c78 :: c79 :: c80 :: c81 :: c82 :: c83 :: c84 :: c85 :: c86 :: c87 :: c88 :: c89 :: c90 :: c91 :: c92 :: c93 :: c94 :: c95 :: c96 :: c97 :: c98 :: c99 :: c100 :: c101 :: c102 :: c103 :: c104 :: c105 :: c106 :: c107 :: c108 :: c109 :: c110 :: c111 :: c112 :: c113 :: c114 :: c115 :: c116 :: c117 :: c118 :: c119 :: c120 :: []), df⟩) → Px w0 wr J T mb s zlen → V3 s.j.m → Qp (.exit 0) a wr) :
    Code.wp Try.prog (Code.loop lpSets) (NoPanic Qp) ⟨List.toArray ((.slice zp zlen zcap) :: c1 :: c2 :: c3 :: c4 :: c5 :: c6 :: (.pointer (some ⟨J, 0, none⟩)) :: c8 :: (.map (some mb)) :: (.int .i64 0) :: c11 :: c12 :: c13 :: c14 :: c15 :: c16 :: c17 :: c18 :: c19 :: c20 :: c21 :: c22 :: c23 :: c24 :: c25 :: c26 :: c27 :: c28 :: c29 :: c30 :: c31 :: c32 :: c33 :: c34 :: c35 :: c36 :: c37 :: c38 :: c39 :: c40 :: c41 :: c42 :: c43 :: c44 :: c45 :: c46 :: c47 :: c48 :: c49 :: c50 :: c51 :: c52 :: c53 :: c54 :: c55 :: c56 :: c57 :: c58 :: c59 :: c60 :: c61 :: c62 :: c63 :: c64 :: c65 :: c66 :: c67 :: c68 :: c69 :: c70 :: c71 :: c72 :: c73 :: c74 :: c75 :: c76 :: c77 :: c78 :: c79 :: c80 :: c81 :: c82 :: c83 :: c84 :: c85 :: c86 :: c87 :: c88 :: c89 :: c90 :: c91 :: c92 :: c93 :: c94 :: c95 :: c96 :: c97 :: c98 :: c99 :: c100 :: c101 :: c102 :: c103 :: c104 :: c105 :: c106 :: c107 :: c108 :: c109 :: c110 :: c111 :: c112 :: c113 :: c114 :: c115 :: c116 :: c117 :: c118 :: c119 :: c120 :: []), df⟩ W := by
  conv => arg 2; arg 1; whnf
  have hmm := @run_makeMap Try.prog
  have HZ := hid hz
  have HZL := hid hzl
  have HZW := hid hzw
  have HP := hid hP
  have HV := hid hV
  have HEX := hid hexit
  clear hz hzl hzw hP hV hexit
  go_loopg [10] zlen (fun gk iv wr => ∃ (I : Nat) (s : JS), I + gk = zlen ∧ iv = .int .i64 (I : Nat) ∧ Px w0 wr J T mb s I ∧ V3 s.j.m)
  case atStart => exact ⟨0, s0, by omega, rfl, HP.out, HV.out⟩
  case round =>
    obtain ⟨I, s, hI, rfl, hP, hV⟩ := hrel
    have HP1 := hid hP
    have HV1 := hid hV
    clear hP hV HP HV
    by_cases hlt : I < zlen
    · have i1 : (I : Int) < (zlen : Int) := by omega
      have hlen := fun ty => HP1.out.m.len tm_u64 ty
      obtain ⟨ln, hln⟩ : ∃ n, s.j.m.length = n := ⟨_, rfl⟩
      rw [hln] at hlen
      have HRO := hid HP1.out.room
      by_cases hlm : ln < 95
      · have i2 : (ln : Int) < 95 := by omega
        have z2 : IntKind.i64.wrap ((I : Int) + 1) = (I : Int) + 1 := IntWalk.i64_in _ ⟨by omega, by omega⟩
        go_wp2_with fail
        refine HRO.out.mono ?_
        rintro e w3 ⟨rfl, nd, rfl⟩
        have HP3 := hid (HP1.out.below ((Below.refl _ _).drewN nd))
        obtain ⟨W3, hW3⟩ : ∃ W, wr.drewN nd = W := ⟨_, rfl⟩
        rw [hW3] at HP3 ⊢
        obtain ⟨_, _, e9, _, _, hce⟩ := HZ.out.below HP3.out.b
        obtain ⟨g9, o9, e8, hcz⟩ := hce I (by rw [HZL.out]; exact hlt)
        simp only [Value.slice.injEq] at e9
        obtain ⟨rfl, e7, rfl⟩ := e9
        clear e7 hce
        subst e8
        obtain ⟨z, hzz⟩ : ∃ z, zs.getD I 0 = z := ⟨_, rfl⟩
        rw [hzz] at hcz
        have hzw9 : (Lit.int .i64 z).wf = true := by rw [← hzz]; exact HZW.out _ (mem_getD' _ _ (by rw [HZL.out]; exact hlt))
        have AK := hid (labs_any z · hzw9)
        have hkb := absN_lt hzw9
        obtain ⟨k, hk⟩ : ∃ k, absN' z = k := ⟨_, rfl⟩
        rw [hk] at AK hkb
        have w1 : IntKind.u64.wrap (k : Int) = (k : Int) := IntWalk.u64_in _ ⟨by omega, by omega⟩
        obtain ⟨v, hv⟩ : ∃ v, k * 3 % 18446744073709551616 = v := ⟨_, rfl⟩
        have w2 : IntKind.u64.wrap ((k : Int) * 3) = (v : Int) := by
          rw [← hv]; unfold IntKind.wrap IntKind.bits IntKind.signed; simp
        have hvb : v < 18446744073709551616 := by omega
        have HSET := hid (HP3.out.set (by omega) k v (by omega) hvb (by rw [hln]; exact hlm))
        have HVV := hid hv
        clear hzz hzw9 hk hv hlen hln hW3 HRO
        go_wp2_with fail
        refine (AK.out _).mono ?_
        rintro e w4 ⟨rfl, rfl⟩
        go_wp2_with fail
        refine HSET.out.mono ?_
        rintro e w5 ⟨s5, rfl, hm5, es, c, hrun, hP5⟩
        have HP5 := hid hP5
        have HM5 := hid hm5
        clear hP5 hm5 HSET
        go_wp2_with fail
        go_roundg (gk - 1)
        case measure => omega
        case rel => exact ⟨I + 1, s5, by omega, by go_num, HP5.out, by rw [HM5.out, ← HVV.out]; exact HV1.out.put k⟩
      · have i2 : ¬ (ln : Int) < 95 := by omega
        go_wp2_with fail
        refine HRO.out.mono ?_
        rintro e w3 ⟨rfl, nd, rfl⟩
        go_wp2_with fail
        exact HEX.out _ _ _ s ⟨_, _, _, _, _, _, _, _, _, _, _, _, _, _, _, _, _, _, _, _, _, _, _, _, _, _, _, _, _, _, rfl⟩ ((HP1.out.below ((Below.refl _ _).drewN nd)).more (by omega)) HV1.out
    · have i1 : ¬ (I : Int) < (zlen : Int) := by omega
      go_wp2_with fail
      exact HEX.out _ _ _ s ⟨_, _, _, _, _, _, _, _, _, _, _, _, _, _, _, _, _, _, _, _, _, _, _, _, _, _, _, _, _, _, rfl⟩ (HP1.out.more (by omega)) HV1.out
end Go.Proofs.Ytkdjefnnhanhhaa
