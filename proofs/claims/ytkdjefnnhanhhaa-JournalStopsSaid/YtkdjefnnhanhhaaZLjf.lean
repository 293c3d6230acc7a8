/- A journal, plain: what it may be asked, and what is opened behind it. -/
import Derived.Test.YtkdjefnnhanhhaaZLje
import Derived.Test.YtkdjefnnhanhhaaUw
set_option linter.unusedVariables false
namespace Go.Proofs.Ytkdjefnnhanhhaa
open Go Go.RowKit Go.Mem Go.Jn
set_option linter.unusedVariables false

/-- A journal of which A may be found again. -/
structure Inv (s : JS) (A : MM → Prop) (n : Nat) : Prop where
  ok : s.j.Ok s.t
  tok : s.t.Ok
  bad : s.j.bad = 0
  few : s.j.m.length ≤ s.t.room
  cur : A s.j.m
  old : Old s.t s.j.area A
  st : (s.j.late = true ∨ s.j.gen = 0) ∧ Lim s.t s.j.top (n * 20000) ∨ ∃ R lo, Lv s R lo (n * 20000) ∧ ∀ k, lo ≤ k → k ≤ R.length → A (mapR (R.take k))
  ops : s.t.ops ≤ n * 20000
  seq : s.j.seq ≤ n * 20000
  top : s.j.top ≤ n
theorem Ap.more {s : JS} {R : List Rec} {lo b b' : Nat} (h : Ap s R lo b) (hb : b ≤ b') : Ap s R lo b' := { h with lim := h.lim.mono (Nat.le_refl _) hb, sb := Nat.le_trans h.sb hb }
theorem room_le {t : Tp} (ht : t.Ok) : t.room + 1 ≤ t.sz * t.per ∧ t.room ≤ 7000 := by
  have h1 := ht.sz
  have h2 := ht.per
  have h3 : 3 * 2 ≤ t.sz * t.per := Nat.mul_le_mul h1.1 h2.1
  have h4 : t.sz * t.per ≤ 499 * 27 := Nat.mul_le_mul h1.2.1 h2.2
  unfold Tp.room
  omega
theorem Inv.lim {s : JS} {A : MM → Prop} {n : Nat} (h : Inv s A n) : Lim s.t s.j.top (n * 20000) := by
  rcases h.st with h | ⟨R, lo, h, _⟩
  · exact h.2
  · exact h.ap.lim
theorem Inv.can {s : JS} {A : MM → Prop} {n : Nat} (h : Inv s A n) (hn : n ≤ 1000000) : s.Can := by
  have h1 := room_le h.tok
  have h2 := h.few
  have h3 := h.ops
  have h4 := h.seq
  have h5 := h.top
  exact ⟨h.tok, h.ok, by omega, by omega, by omega, by omega⟩
theorem Inv.snd {s : JS} {A : MM → Prop} {n : Nat} (h : Inv s A n) : Snd s.t A := fun c hc => old_ver h.old h.ok.area h.tok.n8 hc
/-- What is left where a tape's operation failed. -/
structure Dead (s : JS) (A : MM → Prop) (n : Nat) : Prop where
  snd : Snd s.t A
  lim : Lim s.t n (n * 20000)
  ops : s.t.ops ≤ n * 20000
/-- How far a journal's numbers go in one call. -/
structure Far (s s' : JS) : Prop where
  nb : s'.t.nb = s.t.nb
  size : s'.t.size = s.t.size
  ops : s'.t.ops ≤ s.t.ops + s.j.m.length + 6
  seq : s'.j.seq ≤ s.j.seq + s.j.m.length + 1
theorem put_far (s : JS) (r : Rec) : (s.put r).2.t.nb = s.t.nb ∧ (s.put r).2.t.size = s.t.size ∧ (s.put r).2.t.ops ≤ s.t.ops + 1 ∧ (s.put r).2.j.seq = s.j.seq + 1 := by
  unfold JS.put
  split
  · exact ⟨write_nb _ _ _, write_size _ _ _, Nat.le_of_eq (write_ops _ _ _), (fail_fields _ _).2.2.2.2.2.2.1⟩
  · exact ⟨rfl, rfl, Nat.le_succ _, rfl⟩
theorem puts_far : ∀ (l : MM) (s : JS), (s.puts l).2.t.nb = s.t.nb ∧ (s.puts l).2.t.size = s.t.size ∧ (s.puts l).2.t.ops ≤ s.t.ops + l.length ∧ (s.puts l).2.j.seq ≤ s.j.seq + l.length
  | [], s => ⟨rfl, rfl, Nat.le_refl _, Nat.le_refl _⟩
  | p :: l, s => by
    obtain ⟨h1, h2, h3, h4⟩ := put_far s (setR p)
    unfold JS.puts
    split
    · obtain ⟨k1, k2, k3, k4⟩ := puts_far l (s.put (setR p)).2
      rw [List.length_cons]
      exact ⟨k1.trans h1, k2.trans h2, by omega, by omega⟩
    · rw [List.length_cons]; exact ⟨h1, h2, by omega, by omega⟩
theorem check_far (s : JS) : s.checkpoint.2.t.nb = s.t.nb ∧ s.checkpoint.2.t.size = s.t.size ∧ s.checkpoint.2.t.ops ≤ s.t.ops + s.j.m.length + 5 ∧ s.checkpoint.2.j.seq ≤ s.j.seq + s.j.m.length := by
  obtain ⟨h1, h2, h3, h4⟩ := puts_far s.j.m ⟨s.j.start, s.t⟩
  obtain ⟨R1, hR1⟩ : ∃ R1, (JS.mk s.j.start s.t).puts s.j.m = R1 := ⟨_, rfl⟩
  obtain ⟨e1, s1⟩ := R1
  rw [hR1] at h1 h2 h3 h4
  have h4 : s1.j.seq ≤ s.j.seq + s.j.m.length := h4
  have h3 : s1.t.ops ≤ s.t.ops + s.j.m.length := h3
  by_cases he1 : e1 = 0
  · subst he1
    have hK := flush_kept s1
    obtain ⟨R2, hR2⟩ : ∃ R2, s1.flush = R2 := ⟨_, rfl⟩
    obtain ⟨e2, s2⟩ := R2
    rw [hR2] at hK
    have hk := hK.ops
    have hs := hK.seq
    dsimp only at hk hs
    by_cases he2 : e2 = 0
    · subst he2
      have hW : Kept s2 s2.root.2 s2.root.1 1 := wr_kept s2 _ _
      obtain ⟨R3, hR3⟩ : ∃ R3, s2.root = R3 := ⟨_, rfl⟩
      obtain ⟨e3, s3⟩ := R3
      rw [hR3] at hW
      have hk3 := hW.ops
      have hs3 := hW.seq
      dsimp only at hk3 hs3
      by_cases he3 : e3 = 0
      · subst he3
        rw [check_d hR1 hR2 hR3]
        have hY := syn_kept s3
        have := hY.ops
        have := hY.seq
        exact ⟨hY.nb.trans (hW.nb.trans (hK.nb.trans h1)), hY.size.trans (hW.size.trans (hK.size.trans h2)), by omega, by omega⟩
      · rw [check_c hR1 hR2 hR3 he3]
        exact ⟨hW.nb.trans (hK.nb.trans h1), hW.size.trans (hK.size.trans h2), by show s3.t.ops ≤ _; omega, by show s3.j.seq ≤ _; omega⟩
    · rw [check_b hR1 hR2 he2]
      exact ⟨hK.nb.trans h1, hK.size.trans h2, by show s2.t.ops ≤ _; omega, by show s2.j.seq ≤ _; omega⟩
  · rw [check_a hR1 he1]
    exact ⟨h1, h2, by show s1.t.ops ≤ _; omega, by show s1.j.seq ≤ _; omega⟩
/-- Behind a checkpoint. -/
theorem check_inv {s : JS} {A : MM → Prop} {n : Nat} (hj : s.j.Ok s.t) (ht : s.t.Ok) (hbd : s.j.bad = 0) (hL : Lim s.t s.j.top (n * 20000)) (hsb : s.j.seq ≤ n * 20000) (hO : Old s.t s.j.area A) (htop : s.j.top ≤ n) (hops : s.t.ops ≤ n * 20000) (hm : s.j.m.length ≤ s.t.room) (hn : n ≤ 1000000) :
    (s.checkpoint.1 = 0 ∨ s.checkpoint.1 = 40) ∧ (s.checkpoint.1 = 0 → Inv s.checkpoint.2 (fun m => m = s.j.m) (n + 1) ∧ Clean s.checkpoint.2.t ∧ s.checkpoint.2.j.m = s.j.m) ∧ (s.checkpoint.1 ≠ 0 → Dead s.checkpoint.2 (fun m => A m ∨ m = s.j.m) (n + 1)) := by
  have hr := room_le ht
  obtain ⟨c1, c2, c3, c4, c5⟩ := check_step (b := n * 20000) hj ht hbd hL hsb hO (by omega) (by omega) (by omega)
  obtain ⟨f1, f2, f3, f4⟩ := check_far s
  have hT : s.checkpoint.2.t.Ok := ht.of f1 f2
  refine ⟨c3, fun h0 => ?_, fun h0 => ⟨c4 h0, c1.mono (by omega) (by omega), by omega⟩⟩
  obtain ⟨R, k1, k2, k3, k4, k5⟩ := c5 h0
  have hold := old_ar k1.root k1.g1 k1.ap.ar k1.ap.lo (k1.ap.le k5)
  have hap := k1.ap
  refine ⟨?_, k2, k3⟩
  exact {
    ok := k5
    tok := hT
    bad := k4
    few := by rw [k3]; unfold Tp.room; rw [sz_of f1, per_of f2]; exact hm
    cur := k3
    old := hold.imp (fun m ⟨i, i1, i2, i3⟩ => by rw [i3, List.take_of_length_le i1, k1.map, k3])
    st := .inr ⟨R, R.length, ⟨hap.more (by omega), k1.root, k1.map, k1.late, k1.g1, k1.wr⟩, fun i i1 i2 => by rw [List.take_of_length_le i1, k1.map, k3]⟩
    ops := by omega
    seq := by omega
    top := by
      have h1 := hap.top
      -- the generation is one more
      have h2 : s.checkpoint.2.j.top ≤ s.j.top + 1 := by
        have hst : ∀ (l : MM) (q : JS), (q.puts l).2.j.top = q.j.top := by
          intro l
          induction l with
          | nil => intro q; rfl
          | cons p l ih =>
            intro q
            have hp : (q.put (setR p)).2.j.top = q.j.top := by
              unfold JS.put
              split
              · exact (fail_fields _ _).2.2.1.trans (next_same _ _).2.2.1
              · exact (next_same _ _).2.2.1
            unfold JS.puts
            split
            · rw [ih, hp]
            · exact hp
        have hp := hst s.j.m ⟨s.j.start, s.t⟩
        obtain ⟨R1, hR1⟩ : ∃ R1, (JS.mk s.j.start s.t).puts s.j.m = R1 := ⟨_, rfl⟩
        obtain ⟨e1, s1⟩ := R1
        rw [hR1] at hp
        have hp : s1.j.top = s.j.top + 1 := hp
        by_cases he1 : e1 = 0
        · subst he1
          have hK := flush_kept s1
          obtain ⟨R2, hR2⟩ : ∃ R2, s1.flush = R2 := ⟨_, rfl⟩
          obtain ⟨e2, s2⟩ := R2
          rw [hR2] at hK
          have hk := hK.top
          dsimp only at hk
          by_cases he2 : e2 = 0
          · subst he2
            have hW : Kept s2 s2.root.2 s2.root.1 1 := wr_kept s2 _ _
            obtain ⟨R3, hR3⟩ : ∃ R3, s2.root = R3 := ⟨_, rfl⟩
            obtain ⟨e3, s3⟩ := R3
            rw [hR3] at hW
            have hw := hW.top
            dsimp only at hw
            by_cases he3 : e3 = 0
            · subst he3
              rw [check_d hR1 hR2 hR3, (syn_kept s3).top]; omega
            · rw [check_c hR1 hR2 hR3 he3]; show s3.j.top ≤ _; omega
          · rw [check_b hR1 hR2 he2]; show s2.j.top ≤ _; omega
        · rw [check_a hR1 he1]; show s1.j.top ≤ _; omega
      omega }
/-- A record is noted. -/
theorem note_inv {s : JS} {A : MM → Prop} {n : Nat} (h : Inv s A n) (hn : n ≤ 1000000) (r : Rec) (hr : (1 ≤ r.kind ∧ r.kind ≤ 4) ∧ r.a < 18446744073709551616 ∧ r.b < 18446744073709551616 ∧ r.c < 18446744073709551616) (hr0 : r.seq = 0) (hm : (stepM s.j.m r).length ≤ s.t.room) :
    ((s.note r).1 = 0 ∨ (s.note r).1 = 40) ∧ ((s.note r).1 = 0 → Inv (s.note r).2 (fun m => A m ∨ m = stepM s.j.m r) (n + 1) ∧ (s.note r).2.j.m = stepM s.j.m r) ∧ ((s.note r).1 ≠ 0 → Dead (s.note r).2 (fun m => A m ∨ m = stepM s.j.m r) (n + 1)) ∧ (s.note r).2.t.nb = s.t.nb ∧ (s.note r).2.t.size = s.t.size := by
  have hc := h.can hn
  obtain ⟨a1, a2, a3⟩ := apply_ok h.ok ⟨hr.2.1, hr.2.2.1⟩ hr0 hc.few
  have ham : (s.j.apply r).m = stepM s.j.m r := rfl
  have hE : s.note r = if (JS.mk (s.j.apply r) s.t).full = true then (JS.mk (s.j.apply r) s.t).checkpoint else (JS.mk (s.j.apply r) s.t).put r := by
    unfold JS.note; rw [if_neg (by rw [h.bad]; decide)]
  rw [hE]
  by_cases hf : (JS.mk (s.j.apply r) s.t).full = true
  · rw [if_pos hf]
    obtain ⟨f1, f2, _, _⟩ := check_far ⟨s.j.apply r, s.t⟩
    obtain ⟨c1, c2, c3⟩ := check_inv (s := ⟨s.j.apply r, s.t⟩) (A := A) (n := n) a1 h.tok h.bad h.lim (by show max _ _ ≤ _; rw [hr0]; have := h.seq; omega) h.old h.top h.ops hm hn
    refine ⟨c1, fun h0 => ?_, fun h0 => c3 h0, f1, f2⟩
    obtain ⟨k1, k2, k3⟩ := c2 h0
    refine ⟨?_, k3⟩
    have hst := k1.st
    exact { k1 with
      cur := .inr k3
      old := k1.old.imp (fun m e => .inr e)
      st := by
        rcases hst with h | ⟨R, lo, q1, q2⟩
        · exact .inl h
        · exact .inr ⟨R, lo, q1, fun i i1 i2 => .inr (q2 i i1 i2)⟩ }
  · rw [if_neg hf]
    have hf' : (JS.mk (s.j.apply r) s.t).full = false := by cases hh : (JS.mk (s.j.apply r) s.t).full; rfl; exact absurd hh hf
    have hff := hf'
    unfold JS.full at hff
    simp only [Bool.or_eq_false_iff, decide_eq_false_iff_not] at hff
    have hg0 : ¬ s.j.gen = 0 := hff.1.1
    have hlt : s.j.late = false := hff.1.2
    rcases h.st with ⟨hl, _⟩ | ⟨R, lo, hLv, hA⟩
    · exfalso
      rcases hl with hl | hl
      · rw [hlt] at hl; cases hl
      · exact hg0 hl
    · have hap : Ap ⟨s.j.apply r, s.t⟩ R lo (n * 20000) := { hLv.ap with seq := fun q hq => by show q.seq ≤ max _ _; rw [hr0]; have := hLv.ap.seq q hq; omega, sb := by show max _ _ ≤ _; rw [hr0]; have := h.seq; omega }
      have hroom := not_full hf' a1.block
      have hs1 : (s.j.apply r).seq + 1 < 1000000000000000000 := by rw [a3]; have := h.seq; omega
      obtain ⟨p1, p2, p3, p4⟩ := put_step hap a1 h.tok hroom hr hs1 hLv.wr h.bad
      have hP := put_put (s := ⟨s.j.apply r, s.t⟩) (r := r) a1 h.tok hroom hr hs1
      have hmap : mapR (R ++ [{ r with seq := (s.j.apply r).seq + 1 }]) = stepM s.j.m r := by
        have e9 := mapF_app [] R [{ r with seq := (s.j.apply r).seq + 1 }]
        refine e9.trans ?_
        show stepM (mapR R) _ = _
        rw [hLv.map]; rfl
      have hroot : RootIs ((JS.mk (s.j.apply r) s.t).put r).2.t s.j.gen s.j.area := Fr.root p3 hLv.root h.tok.n8
      have hT : ((JS.mk (s.j.apply r) s.t).put r).2.t.Ok := h.tok.of hP.nb hP.size
      have hlen : (R ++ [{ r with seq := (s.j.apply r).seq + 1 }]).length = R.length + 1 := by rw [List.length_append, List.length_singleton]
      have hA' : ∀ k, lo ≤ k → k ≤ (R ++ [{ r with seq := (s.j.apply r).seq + 1 }]).length → A (mapR ((R ++ [{ r with seq := (s.j.apply r).seq + 1 }]).take k)) ∨ mapR ((R ++ [{ r with seq := (s.j.apply r).seq + 1 }]).take k) = stepM s.j.m r := fun k k1 k2 => by
        rw [hlen] at k2
        by_cases hk : k ≤ R.length
        · left; rw [List.take_append_of_le_length hk]; exact hA k k1 hk
        · right; rw [List.take_of_length_le (by rw [hlen]; omega)]; exact hmap
      have hle : (R ++ [{ r with seq := (s.j.apply r).seq + 1 }]).length ≤ ((JS.mk (s.j.apply r) s.t).put r).2.t.sz * ((JS.mk (s.j.apply r) s.t).put r).2.t.per := by
        have h1 := hP.cnt
        have h2 := hP.ok.block
        have h3 := hP.ok.rows
        rw [per_of hP.size] at h3
        rw [sz_of hP.nb] at h2
        rw [sz_of hP.nb, per_of hP.size, hlen, hap.cnt]
        rw [← h1]
        unfold Jo.cnt
        have h5 : ((((JS.mk (s.j.apply r) s.t).put r).2.j).block + 1) * s.t.per ≤ s.t.sz * s.t.per := Nat.mul_le_mul_right _ h2
        rw [Nat.succ_mul] at h5
        dsimp only at h3 h5 ⊢
        omega
      have hold : Old ((JS.mk (s.j.apply r) s.t).put r).2.t s.j.area (fun m => A m ∨ m = stepM s.j.m r) := by
        have hp1 : Ar ((JS.mk (s.j.apply r) s.t).put r).2.t s.j.gen s.j.area (R ++ [{ r with seq := (s.j.apply r).seq + 1 }]) lo := p1
        refine (old_ar hroot hLv.g1 hp1 (by rw [hlen]; have := hLv.ap.lo; omega) hle).imp ?_
        rintro m ⟨k, k1, k2, rfl⟩
        exact hA' k k1 k2
      refine ⟨hP.err, fun h0 => ?_, fun h0 => ⟨fun c hc => old_ver hold h.ok.area hT.n8 hc, ?_, ?_⟩, hP.nb, hP.size⟩
      · obtain ⟨k1, k2⟩ := p4 h0
        have hgen : ((JS.mk (s.j.apply r) s.t).put r).2.j.gen = s.j.gen := hP.gen
        have hare : ((JS.mk (s.j.apply r) s.t).put r).2.j.area = s.j.area := hP.area
        refine ⟨?_, hP.m⟩
        exact {
          ok := hP.ok
          tok := hT
          bad := by rw [hP.bad, if_pos h0]; exact h.bad
          few := by rw [hP.m]; unfold Tp.room; rw [sz_of hP.nb, per_of hP.size]; exact hm
          cur := .inr hP.m
          old := by rw [hare]; exact hold
          st := .inr ⟨_, lo, ⟨k1.more (by omega), by rw [hgen, hare]; exact hroot, by rw [hP.m]; exact hmap, by rw [hP.late]; exact hLv.late, by rw [hgen]; exact hLv.g1, k2⟩, hA'⟩
          ops := by have := hP.ops; have := h.ops; dsimp only at *; omega
          seq := by rw [hP.seq, a3]; have := h.seq; omega
          top := by rw [hP.top]; have := h.top; show s.j.top ≤ _; omega }
      · exact p2.mono (by have := h.top; show s.j.top ≤ _; omega) (by omega)
      · have := hP.ops; have := h.ops; dsimp only at *; omega
theorem sync_inv {s : JS} {A : MM → Prop} {n : Nat} (h : Inv s A n) (hn : n ≤ 1000000) :
    (s.sync.1 = 0 ∨ s.sync.1 = 40) ∧ (s.sync.1 = 0 → Inv s.sync.2 (fun m => m = s.j.m) (n + 1) ∧ Clean s.sync.2.t ∧ s.sync.2.j.m = s.j.m) ∧ (s.sync.1 ≠ 0 → Dead s.sync.2 A (n + 1)) ∧ s.sync.2.t.nb = s.t.nb ∧ s.sync.2.t.size = s.t.size := by
  unfold JS.sync
  rw [if_neg (by rw [h.bad]; decide)]
  by_cases hl : s.j.gen = 0 ∨ s.j.late = true
  · rw [if_pos hl]
    obtain ⟨f1, f2, _, _⟩ := check_far s
    obtain ⟨c1, c2, c3⟩ := check_inv h.ok h.tok h.bad h.lim h.seq h.old h.top h.ops h.few hn
    refine ⟨c1, c2, fun h0 => ?_, f1, f2⟩
    have hd := c3 h0
    exact { hd with snd := hd.snd.imp (fun m hm => by rcases hm with hm | hm; exact hm; rw [hm]; exact h.cur) }
  · rw [if_neg hl]
    rcases h.st with ⟨hl', _⟩ | ⟨R, lo, hLv, hA⟩
    · exact absurd (hl'.symm) (fun h => hl (by rcases h with h | h; exact .inl h; exact .inr h))
    · obtain ⟨f1, f2, f3, f4⟩ := flush_step hLv.ap h.ok h.tok h.bad
      have hK := flush_kept s
      have hT : s.flush.2.t.Ok := h.tok.of hK.nb hK.size
      have hroot : RootIs s.flush.2.t s.j.gen s.j.area := Fr.root f3 hLv.root h.tok.n8
      have hle : R.length ≤ s.flush.2.t.sz * s.flush.2.t.per := by rw [sz_of hK.nb, per_of hK.size]; exact hLv.ap.le h.ok
      refine ⟨hK.err, fun h0 => ?_, fun h0 => ⟨fun c hc => ?_, ?_, ?_⟩, hK.nb, hK.size⟩
      · obtain ⟨k1, k2, k3⟩ := f4 h0
        have hgen := hK.gen
        have hare := hK.area
        refine ⟨?_, k2, hK.m⟩
        exact {
          ok := hK.ok h.ok
          tok := hT
          bad := by rw [hK.bad, if_pos h0]; exact h.bad
          few := by rw [hK.m]; unfold Tp.room; rw [sz_of hK.nb, per_of hK.size]; exact h.few
          cur := hK.m
          old := by
            rw [hare]
            have h9 := k1.ar
            rw [hgen, hare] at h9
            refine (old_ar hroot hLv.g1 h9 (Nat.le_refl _) hle).imp ?_
            rintro m ⟨k, k1', k2', rfl⟩
            rw [List.take_of_length_le k1', hLv.map]
          st := .inr ⟨R, R.length, ⟨k1.more (by omega), by rw [hgen, hare]; exact hroot, by rw [hK.m]; exact hLv.map, by rw [hK.late]; exact hLv.late, by rw [hgen]; exact hLv.g1, fun _ => .inl k3⟩, fun k i1 i2 => by rw [List.take_of_length_le i1, hLv.map]⟩
          ops := by have := hK.ops; have := h.ops; omega
          seq := Nat.le_trans (Nat.le_of_eq hK.seq) (Nat.le_trans h.seq (Nat.mul_le_mul_right _ (Nat.le_succ _)))
          top := Nat.le_trans (Nat.le_of_eq hK.top) (Nat.le_trans h.top (Nat.le_succ _)) }
      · have := old_ar hroot hLv.g1 f1 hLv.ap.lo hle
        refine old_ver (this.imp ?_) h.ok.area hT.n8 hc
        rintro m ⟨k, k1', k2', rfl⟩
        exact hA k k1' k2'
      · exact f2.mono (by have := h.top; omega) (by omega)
      · have := hK.ops; have := h.ops; omega
end Go.Proofs.Ytkdjefnnhanhhaa
