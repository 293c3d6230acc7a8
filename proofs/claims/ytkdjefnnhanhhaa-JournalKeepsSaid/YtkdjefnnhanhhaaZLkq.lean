/- Walks over the journal's laws: what holds in JournalKeeps, between its rounds and within one. -/
import Derived.Test.YtkdjefnnhanhhaaUs
set_option linter.unusedVariables false
namespace Go.Proofs.Ytkdjefnnhanhhaa
open Go Go.RowKit Go.Mem Go.Jn
set_option linter.unusedVariables false

theorem info_i64 : (Try.prog.info? 3).map (fun i => (i.zero, i.size, i.bytes)) = some (some (.int .i64 0), 1, 8) := by kernel_rfl
/-- Between two rounds: the tape holds the map M, and so does the block mb; the picks lie as they lie. -/
structure Kq (w wr : World) (Q : Nat → Prop) (T mb : Nat) (t : Tp) (M : MM) (pv : Value) (zs : List Int) (nb size n : Nat) : Prop where
  tp : TapeAt Q wr T t
  q : Tq t M nb size n
  m : MAt Try.prog 38 38 wr mb M
  nq : ¬ Q mb
  b : Below w.heap.size w wr
  lo : (∀ j, Q j → w.heap.size ≤ j) ∧ w.heap.size ≤ mb
  pk : ∀ W, Off (fun i => Q i ∨ i = mb) wr W → RdI .i64 W pv zs
  pz : ∀ y ∈ zs, (Lit.int .i64 y).wf = true
theorem Kq.open {w wr : World} {Q : Nat → Prop} {T mb nb size n : Nat} {t : Tp} {M : MM} {pv : Value} {zs : List Int} (h : Kq w wr Q T mb t M pv zs nb size n) (hn : n ≤ 1000000) :
    Calls Try.prog 12 #[.iface 25 (.pointer (some ⟨T, 0, none⟩))] wr fun e w' => ∃ K s, e = .returned (.tuple #[.pointer (some ⟨K, 0, none⟩), .int .i64 0]) ∧ JSt Q w' K T s ∧ Inv s (fun m => m = s.j.m) (n + 1) ∧ Clean s.t ∧ On s.t ∧ s.j.m = M ∧ s.t.nb = nb ∧ s.t.size = size ∧ MAt Try.prog 38 38 w' mb M ∧ Below w.heap.size w w' ∧ Off Q wr w' := by
  obtain ⟨top, h1, h2⟩ := h.q.lim
  have hops := h.q.ops
  obtain ⟨k1, k2⟩ := open_inv h.q.c h.q.snd h2 h.q.ok h1 h.q.ops hn (fun m hm => by rw [hm]; exact ⟨h.q.fit, h.q.few⟩)
  have hQT : Q T := by
    obtain ⟨ka, sa, K, S, ck, cs, kv, sv, h⟩ := h.tp
    exact h.q.1
  refine (open_any h.tp h.q.ok (by omega) h.q.o.1 h.q.o.2).mono ?_
  rintro e w' ⟨K, rfl, hK, hS, hF⟩
  have hF' : Off Q wr w' := hF.imp (fun i _ h' => by rw [h']; exact hQT)
  have hb : Below w.heap.size w w' := h.b.trans (hF'.below h.b.size (fun j hj h' => by have := h.lo.1 j h'; omega))
  exact ⟨K, _, rfl, hS, k2, h.q.c, h.q.o.stepN _, k1, h.q.nb, h.q.size, h.m.same (hF'.block mb h.m.lt h.nq), hb, hF'⟩
/-- In a round: the journal runs beside the states. -/
structure Kr (w wr : World) (Q : Nat → Prop) (J T mb : Nat) (s : JS) (Ms : List MM) (d : Nat) (sv pv : Value) (zs : List Int) (nb size n : Nat) : Prop where
  st : JSt Q wr J T s
  rn : Rn s Ms d nb size n
  m : MAt Try.prog 38 38 wr mb s.j.m
  ss : Sts (fun i => Q i ∨ i = mb) wr sv Ms
  nq : ¬ Q mb
  b : Below w.heap.size w wr
  lo : (∀ j, Q j → w.heap.size ≤ j) ∧ w.heap.size ≤ mb
  pk : ∀ W, Off (fun i => Q i ∨ i = mb ∨ sv.ownBlock = some i) wr W → RdI .i64 W pv zs
  pz : ∀ y ∈ zs, (Lit.int .i64 y).wf = true
  ow : ∀ g, sv.ownBlock = some g → w.heap.size ≤ g
/-- The first state has been copied, the slice of states made. -/
theorem Kr.start {w wr wc w6 : World} {Q : Nat → Prop} {J T mb nb size n k g : Nat} {t : Tp} {s : JS} {pv : Value} {zs : List Int} (h : Kq w wr Q T mb t s.j.m pv zs nb size n) (hF : Off Q wr wc) (hS : JSt Q wc J T s) (hI : Inv s (fun m => m = s.j.m) k) (hk : k ≤ n + 1) (h1 : s.t.nb = nb) (h2 : s.t.size = size)
    (hM : MAt Try.prog 38 38 w6 wc.heap.size s.j.m) (hb : Below wc.heap.size wc w6) (hg : w6.heap.size = g) :
    Kr w (w6.alloc (.cells #[.map (some wc.heap.size)] 44)) (fun j => Q j ∧ j ≠ wc.heap.size ∧ j ≠ g) J T mb s [s.j.m] 0 (.slice (some ⟨g, 0, none⟩) 1 1) pv zs nb size (n + 1) := by
  have hb7 : Below wc.heap.size wc (w6.alloc (.cells #[.map (some wc.heap.size)] 44)) := hb.alloc hb.size _
  have hcl := hM.lt
  have hmbl : mb < wc.heap.size := Nat.lt_of_lt_of_le h.m.lt hF.size
  have hbw : Below w.heap.size w wc := h.b.trans (hF.below h.b.size (fun j hj h' => by have := h.lo.1 j h'; omega))
  refine ⟨hS.shiftS (fun j hj _ => hb7.block j hj) (fun j hj h' => ⟨h', by omega, by have := hb.size; omega⟩) (fun j hj => ?_), Rn.start hI hk h1 h2, (h.m.same (hF.block mb h.m.lt h.nq)).below hb7, ?_, fun h' => h.nq h'.1, hbw.trans (hb7.mono hbw.size), ⟨fun j h' => h.lo.1 j h'.1, h.lo.2⟩, fun W hW => ?_, h.pz, fun g' e => ?_⟩
  · rw [World.size_alloc] at hj
    exact ⟨hS.up j (by have := hb.size; omega), by have := hb.size; omega, by omega⟩
  · refine Sts.one (fun h' => ?_) (fun h' => ?_) (hM.alloc _) (by rw [← hg]; exact alloc_new _ _)
    · rcases h' with h' | h'
      · exact h'.2.1 rfl
      · omega
    · rcases h' with h' | h'
      · exact h'.2.2 rfl
      · have := hb.size; omega
  · refine h.pk W (Off.step (X := fun i => Q i ∨ i = mb) ((hF.imp (fun i _ h' => .inl h')).trans (Off.of_below hb7)) hW (fun i hi h' => ?_))
    rcases h' with h' | h' | h'
    · exact .inl h'.1
    · exact .inr h'
    · have e : some g = some i := h'
      injection e with e
      have := hb.size; have := hF.size; omega
  · have e' : some g = some g' := e
    injection e' with e'
    have := hb.size; have := hbw.size; omega
/-- One call of the script: what has turned. -/
theorem Kr.doo {w wr : World} {Q : Nat → Prop} {J T mb nb size n d : Nat} {s : JS} {Ms : List MM} {sv pv : Value} {zs : List Int} (h : Kr w wr Q J T mb s Ms d sv pv zs nb size n) (hn : n ≤ 1000000) (o : HOp) (ho : o.Fit) (keys : Nat) (hk : 0 < keys ∧ keys ≤ 1000000) :
    Calls Try.prog 18 #[.pointer (some ⟨J, 0, none⟩), .map (some mb), .agg #[.int .i64 o.kind, .int .i64 o.sector, .int .u64 (o.value : Nat)], .int .i64 (keys : Nat)] wr fun e w' => e = .returned (.int .i64 (doJ s o keys).1) ∧ JSt Q w' J T (doJ s o keys).2 ∧ MAt Try.prog 38 38 w' mb (doM s o keys) ∧ Off (fun i => Q i ∨ i = mb) wr w' ∧ Sts (fun i => Q i ∨ i = mb) w' sv Ms ∧ Below w.heap.size w w' ∧ (∀ W, Off (fun i => Q i ∨ i = mb ∨ sv.ownBlock = some i) w' W → RdI .i64 W pv zs) := by
  obtain ⟨A, k, hI, hkn, hA⟩ := h.rn.inv
  refine (ldo_any h.st hI (by omega) h.m h.nq o ho keys hk).mono ?_
  rintro e w' ⟨he, hS, hM, hF⟩
  refine ⟨he, hS, hM, hF, h.ss.off hF, h.b.trans (hF.below h.b.size (fun j hj h' => ?_)), fun W hW => h.pk W ((hF.imp (fun i _ h' => by rcases h' with h' | h'; exact .inl h'; exact .inr (.inl h'))).trans hW)⟩
  have := h.lo
  rcases h' with h' | h'
  · have := this.1 j h'; omega
  · omega
/-- A journal's own blocks are not its tape's. -/
theorem JAtC.offT {Q : Nat → Prop} {w w' : World} {J T b : Nat} {j : Jo} {rv : Value} {cu : Array Value} (h : JAtC Q w J T j b rv) (hT : w.heap[T]? = some (.cells cu 30 (0, 0))) (hF : Off (fun i => i = T) w w') : JAtC Q w' J T j b rv := by
  have hne : ∀ i, (i = J ∨ i = b ∨ rv.ownBlock = some i) → i ≠ T := fun i h' e => by
    subst e
    rcases h' with rfl | rfl | h'
    · have h1 := h.hp; rw [hT] at h1; simp at h1
    · obtain ⟨es, c, h1⟩ := h.mp.isMap
      rw [hT] at h1; cases h1
    · rcases orec_own h.ro with e | ⟨g, cu', e, hg⟩
      · rw [e] at h'; cases h'
      · rw [e] at h'; cases h'; rw [hT] at hg; simp at hg
  exact h.shift (fun i hi h' => ⟨hF.block i hi (hne i h'), by
    rcases h' with rfl | rfl | h'
    · exact h.qj
    · exact h.qb
    · exact h.qr _ h'⟩)
/-- The states grow by one. -/
theorem Kr.grow {w5 w7 w8 : World} {Q : Nat → Prop} {J T mb cb g8 cap8 : Nat} {s : JS} {Ms : List MM} {M : MM} {sv : Value} (hS : JSt Q w5 J T s) (hm : MAt Try.prog 38 38 w5 mb M) (hs : Sts (fun i => Q i ∨ i = mb) w5 sv Ms) (hnq : ¬ Q mb)
    (hc : w5.heap.size = cb) (hM : MAt Try.prog 38 38 w7 cb M) (hb : Below w5.heap.size w5 w7) (hgr : w7.grownBy w8 sv.ownBlock) (hat : sv.ownBlock = some g8 ∨ g8 = w7.heap.size) (hlt : g8 < w8.heap.size)
    (hw : ∀ vs, w7.ownsRow 0 44 1 sv Ms.length vs → w8.ownsRow 0 44 1 (.slice (some ⟨g8, 0, none⟩) (Ms.length + 1) cap8) (Ms.length + 1) (vs ++ [.map (some cb)])) :
    JSt (fun j => Q j ∧ j ≠ cb ∧ j ≠ g8) w8 J T s ∧ Sts (fun i => (Q i ∧ i ≠ cb ∧ i ≠ g8) ∨ i = mb) w8 (.slice (some ⟨g8, 0, none⟩) (Ms.length + 1) cap8) (Ms ++ [M]) ∧ MAt Try.prog 38 38 w8 mb M := by
  have hown : ∀ g, sv.ownBlock = some g → ¬ (Q g ∨ g = mb) ∧ g < w5.heap.size := fun g e => by
    obtain ⟨vs, h1, h2, _⟩ := hs
    obtain ⟨cs, hh⟩ := orow_lt h1 e
    exact ⟨h2 g e, lt_at hh⟩
  have hcl := hM.lt
  have hml := hm.lt
  have h78 := hgr.size
  have h57 := hb.size
  have hmn : some mb ≠ sv.ownBlock := fun e => (hown mb e.symm).1 (.inr rfl)
  have hg8 : ¬ (Q g8 ∧ g8 < w5.heap.size) ∧ g8 ≠ mb := by
    rcases hat with h | h
    · have := hown g8 h
      exact ⟨fun h' => this.1 (.inl h'.1), fun e => this.1 (.inr e)⟩
    · exact ⟨fun h' => by omega, by omega⟩
  refine ⟨hS.shiftS (fun j hj hq => ?_) (fun j hj hq => ⟨hq, by omega, fun e => hg8.1 ⟨e ▸ hq, e ▸ hj⟩⟩) (fun j hj => ⟨hS.up j (by omega), by omega, by omega⟩), ?_, ?_⟩
  · exact (hgr.block j (by omega) (fun e => (hown j e.symm).1 (.inl hq))).trans (hb.block j hj)
  · have hs7 : Sts (fun i => (Q i ∧ i ≠ cb) ∨ i = mb) w7 sv Ms := (hs.below hb).imp (fun j _ h' => by rcases h' with h' | h'; exact .inl h'.1; exact .inr h')
    refine hs7.snoc (b := cb) (fun h' => ?_) hM (fun h' => ?_) (fun j h' => ?_) hw hgr
    · rcases h' with h' | h'
      · exact h'.2 rfl
      · omega
    · rcases h' with h' | h'
      · exact h'.2.2 rfl
      · exact hg8.2 h'
    · rcases h' with h' | h'
      · exact .inl ⟨h'.1, h'.2.1⟩
      · exact .inr h'
  · exact (hm.below hb).kept hgr hmn
/-- Behind the calls: the tape, and what may be found. -/
structure Kf (w wr : World) (Q : Nat → Prop) (T mb : Nat) (t : Tp) (Ms : List MM) (d : Nat) (sv pv : Value) (zs : List Int) (nb size n : Nat) : Prop where
  tp : TapeAt Q wr T t
  fd : Fd t Ms d nb size n
  d : d < Ms.length
  ss : Sts (fun i => Q i ∨ i = mb) wr sv Ms
  nq : ¬ Q mb
  ml : mb < wr.heap.size
  b : Below w.heap.size w wr
  lo : (∀ j, Q j → w.heap.size ≤ j) ∧ w.heap.size ≤ mb
  pk : ∀ W, Off (fun i => Q i ∨ i = mb ∨ sv.ownBlock = some i) wr W → RdI .i64 W pv zs
  pz : ∀ y ∈ zs, (Lit.int .i64 y).wf = true
/-- Ahead of a copy: the model has turned, the states have not. -/
structure Kg (w wr : World) (Q : Nat → Prop) (J T mb : Nat) (s : JS) (M : MM) (Ms : List MM) (d : Nat) (sv pv : Value) (zs : List Int) : Prop where
  st : JSt Q wr J T s
  m : MAt Try.prog 38 38 wr mb M
  d : d < Ms.length
  ss : Sts (fun i => Q i ∨ i = mb) wr sv Ms
  nq : ¬ Q mb
  b : Below w.heap.size w wr
  lo : (∀ j, Q j → w.heap.size ≤ j) ∧ w.heap.size ≤ mb
  pk : ∀ W, Off (fun i => Q i ∨ i = mb ∨ sv.ownBlock = some i) wr W → RdI .i64 W pv zs
  pz : ∀ y ∈ zs, (Lit.int .i64 y).wf = true
  ow : ∀ g, sv.ownBlock = some g → w.heap.size ≤ g
section
variable {w wr : World} {Q : Nat → Prop} {J T mb nb size n d : Nat} {s : JS} {t : Tp} {M : MM} {Ms : List MM} {sv pv : Value} {zs : List Int}
theorem Kr.kf (h : Kr w wr Q J T mb s Ms d sv pv zs nb size n) : Kf w wr Q T mb s.t Ms d sv pv zs nb size n :=
  ⟨h.st.1, h.rn.fd, h.rn.d, h.ss, h.nq, h.m.lt, h.b, h.lo, h.pk, h.pz⟩
theorem Kr.more (h : Kr w wr Q J T mb s Ms d sv pv zs nb size n) {m : Nat} (hm : n ≤ m) : Kr w wr Q J T mb s Ms d sv pv zs nb size m :=
  ⟨h.st, h.rn.more hm, h.m, h.ss, h.nq, h.b, h.lo, h.pk, h.pz, h.ow⟩
/-- One call of the script. -/
theorem Kr.step (h : Kr w wr Q J T mb s Ms d sv pv zs nb size n) (hn : n ≤ 1000000) (o : HOp) (ho : o.Fit) (keys : Nat) (hk : 0 < keys ∧ keys ≤ 1000000) :
    Calls Try.prog 18 #[.pointer (some ⟨J, 0, none⟩), .map (some mb), .agg #[.int .i64 o.kind, .int .i64 o.sector, .int .u64 (o.value : Nat)], .int .i64 (keys : Nat)] wr fun e w' => ∃ c s' M', e = .returned (.int .i64 c) ∧ Off (fun i => w.heap.size ≤ i) wr w' ∧
      (((c = 90 ∨ c = 70) ∧ Kr w w' Q J T mb s Ms d sv pv zs nb size n) ∨
       (doK o = 5 ∧ c = 0 ∧ Kr w w' Q J T mb s' Ms (Ms.length - 1) sv pv zs nb size (n + 1)) ∨
       (doK o = 5 ∧ c = 40 ∧ Kf w w' Q T mb s'.t Ms d sv pv zs nb size (n + 1)) ∨
       (doK o ≠ 5 ∧ c = 0 ∧ Kg w w' Q J T mb s' M' Ms d sv pv zs ∧ s'.j.m = M' ∧ Rn s' (Ms ++ [M']) d nb size (n + 1)) ∨
       (doK o ≠ 5 ∧ c = 40 ∧ Kg w w' Q J T mb s' M' Ms d sv pv zs ∧ Fd s'.t (Ms ++ [M']) d nb size (n + 1))) ∧ M'.length ≤ 60000 := by
  obtain ⟨A, k, hI, hkn, hA⟩ := h.rn.inv
  have hfl : (doM s o keys).length ≤ 60000 := by
    have h1 := (doM_fit hI (by omega) o ho keys hk).2
    have h2 := room_le hI.tok
    omega
  refine (h.doo hn o ho keys hk).mono ?_
  rintro e w' ⟨rfl, hS, hM, hF, hs, hb, hp⟩
  have hO : Off (fun i => w.heap.size ≤ i) wr w' := hF.imp (fun i _ h' => by
    have := h.lo
    rcases h' with h' | h'
    · exact this.1 i h'
    · rw [h']; exact this.2)
  refine ⟨_, (doJ s o keys).2, doM s o keys, rfl, hO, ?_, hfl⟩
  rcases h.rn.doo hn o ho keys hk with ⟨h1, h2, h3⟩ | ⟨h1, h2, ⟨h3, h4, h5⟩ | ⟨h3, h4⟩⟩ | ⟨h1, ⟨h2, h3, h4⟩ | ⟨h2, h3⟩⟩
  · rw [h2] at hS
    rw [h3] at hM
    exact .inl ⟨h1, hS, h.rn, hM, hs, h.nq, hb, h.lo, hp, h.pz, h.ow⟩
  · exact .inr (.inl ⟨h1, h3, hS, h5, by rw [h4, ← h2]; exact hM, hs, h.nq, hb, h.lo, hp, h.pz, h.ow⟩)
  · exact .inr (.inr (.inl ⟨h1, h3, hS.1, h4, h.rn.d, hs, h.nq, hM.lt, hb, h.lo, hp, h.pz⟩))
  · exact .inr (.inr (.inr (.inl ⟨h1, h2, ⟨hS, hM, h.rn.d, hs, h.nq, hb, h.lo, hp, h.pz, h.ow⟩, h3, h4⟩)))
  · exact .inr (.inr (.inr (.inr ⟨h1, h2, ⟨hS, hM, h.rn.d, hs, h.nq, hb, h.lo, hp, h.pz, h.ow⟩, h3⟩)))
/-- The states grow by one. -/
theorem Kg.grow {w5 w7 w8 : World} {cb g8 cap8 : Nat} (h : Kg w w5 Q J T mb s M Ms d sv pv zs)
    (hc : w5.heap.size = cb) (hM : MAt Try.prog 38 38 w7 cb M) (hb : Below w5.heap.size w5 w7) (hgr : w7.grownBy w8 sv.ownBlock) (hat : sv.ownBlock = some g8 ∨ g8 = w7.heap.size) (hlt : g8 < w8.heap.size)
    (hw : ∀ vs, w7.ownsRow 0 44 1 sv Ms.length vs → w8.ownsRow 0 44 1 (.slice (some ⟨g8, 0, none⟩) (Ms.length + 1) cap8) (Ms.length + 1) (vs ++ [.map (some cb)])) :
    Kg w w8 (fun j => Q j ∧ j ≠ cb ∧ j ≠ g8) J T mb s M (Ms ++ [M]) d (.slice (some ⟨g8, 0, none⟩) (Ms.length + 1) cap8) pv zs := by
  obtain ⟨k1, k2, k3⟩ := Kr.grow h.st h.m h.ss h.nq hc hM hb hgr hat hlt hw
  have hd := h.d
  have h57 : Off (fun i => sv.ownBlock = some i) w5 w8 := (Off.of_below hb).trans (off_of_grown hgr (fun j e => e))
  refine ⟨k1, k3, by rw [List.length_append]; omega, k2, fun h' => h.nq h'.1, h.b.trans (h57.below h.b.size (fun j hj h' => ?_)), ⟨fun j h' => h.lo.1 j h'.1, h.lo.2⟩, fun W hW => h.pk W (Off.step (h57.imp (fun i _ h' => .inr (.inr h'))) hW (fun i hi h' => ?_)), h.pz, fun g e => ?_⟩
  · have := h.ow j h'; omega
  · rcases h' with h' | h' | h'
    · exact .inl h'.1
    · exact .inr (.inl h')
    · have e : some g8 = some i := h'
      injection e with e
      subst e
      rcases hat with h9 | h9
      · exact .inr (.inr h9)
      · have := hb.size; omega
  · have e' : some g8 = some g := e
    injection e' with e'
    subst e'
    rcases hat with h9 | h9
    · exact h.ow _ h9
    · have := hb.size; have := h.b.size; omega
theorem Kg.kr (h : Kg w wr Q J T mb s M Ms d sv pv zs) (hm : s.j.m = M) (hr : Rn s Ms d nb size n) : Kr w wr Q J T mb s Ms d sv pv zs nb size n :=
  ⟨h.st, hr, by rw [hm]; exact h.m, h.ss, h.nq, h.b, h.lo, h.pk, h.pz, h.ow⟩
theorem Kg.kf (h : Kg w wr Q J T mb s M Ms d sv pv zs) (hr : Fd s.t Ms d nb size n) : Kf w wr Q T mb s.t Ms d sv pv zs nb size n :=
  ⟨h.st.1, hr, h.d, h.ss, h.nq, h.m.lt, h.b, h.lo, h.pk, h.pz⟩
theorem Kf.more (h : Kf w wr Q T mb t Ms d sv pv zs nb size n) {m : Nat} (hm : n ≤ m) : Kf w wr Q T mb t Ms d sv pv zs nb size m := by
  have h4 : n * 20000 ≤ m * 20000 := Nat.mul_le_mul_right _ hm
  obtain ⟨top, k1, k2⟩ := h.fd.lim
  exact ⟨h.tp, ⟨h.fd.ok, h.fd.nb, h.fd.size, h.fd.snd, ⟨top, by omega, k2.mono (Nat.le_refl _) h4⟩, Nat.le_trans h.fd.ops h4, h.fd.fit⟩, h.d, h.ss, h.nq, h.ml, h.b, h.lo, h.pk, h.pz⟩
theorem Kr.below {w' : World} (h : Kr w wr Q J T mb s Ms d sv pv zs nb size n) (hb : Below wr.heap.size wr w') : Kr w w' Q J T mb s Ms d sv pv zs nb size n :=
  ⟨h.st.below hb, h.rn, h.m.below hb, h.ss.below hb, h.nq, h.b.trans (hb.mono h.b.size), h.lo, fun W hW => h.pk W ((Off.of_below hb).trans hW), h.pz, h.ow⟩
theorem Kr.room (h : Kr w wr Q J T mb s Ms d sv pv zs nb size n) :
    Calls Try.prog 13 #[.pointer (some ⟨J, 0, none⟩)] wr fun r w' => r = .returned (.int .i64 (s.t.room : Nat)) ∧ ∃ n, w' = wr.drewN n := by
  obtain ⟨hT, b, rv, hJ⟩ := h.st
  obtain ⟨A, i, h1, h2⟩ := h.rn.inv
  exact room_any hT hJ h1.tok
theorem orow_uniq {w : World} {v : Value} {n : Nat} {e : TypeId} {xs ys : List Value} (h : w.ownsRow 0 e 1 v n xs) (k : w.ownsRow 0 e 1 v n ys) : xs = ys := by
  rcases h.2 with ⟨rfl, h0⟩ | ⟨g, cap, cur, rfl, _, h4, h5, h6, h7, h8⟩
  · have h1 := h.1
    have h2 := k.1
    subst h0
    have e1 : xs = [] := List.eq_nil_of_length_eq_zero (by simpa using h1)
    have e2 : ys = [] := List.eq_nil_of_length_eq_zero (by simpa using h2)
    rw [e1, e2]
  · rcases k.2 with ⟨e, _⟩ | ⟨g', cap', cur', e', _, k4, k5, k6, k7, k8⟩
    · cases e
    · cases e'
      rw [h4] at k4
      cases k4
      rw [← h8, ← k8]
/-- The power is on again, the tape is left as the picks say. -/
theorem Kf.leave (h : Kf w wr Q T mb t Ms d sv pv zs nb size n) (hn : n ≤ 1000000) :
    Calls Try.prog 21 #[.pointer (some ⟨T, 0, none⟩), pv] wr fun e w' => (∃ u, e = .returned u) ∧ Kf w w' Q T mb (t.leave zs) Ms d sv pv zs nb size n := by
  have hops := h.fd.ops
  have hnb := h.fd.ok.nl
  have hn8 := h.fd.ok.n8
  refine (leave_any h.tp (by omega) (by omega) (by omega) pv zs (fun W hW => h.pk W (hW.imp (fun i _ h' => .inl h'))) h.pz).mono ?_
  rintro e w' ⟨hv, hT, hF⟩
  exact ⟨hv, hT, h.fd.leave zs, h.d, h.ss.off (hF.imp (fun i _ h' => .inl h')), h.nq, Nat.lt_of_lt_of_le h.ml hF.size, h.b.trans (hF.below h.b.size (fun j hj h' => by have := h.lo.1 j h'; omega)), h.lo, fun W hW => h.pk W ((hF.imp (fun i _ h' => .inl h')).trans hW), h.pz⟩
/-- The journal is opened: what is found is one of the states. -/
structure Kh (w wr : World) (Q : Nat → Prop) (J T mb : Nat) (s : JS) (Ms : List MM) (d : Nat) (sv pv : Value) (zs : List Int) (nb size n : Nat) : Prop where
  st : JSt Q wr J T s
  inv : Inv s (fun m => m = s.j.m) n
  c : Clean s.t
  o : On s.t
  nb : s.t.nb = nb
  size : s.t.size = size
  mem : s.j.m ∈ Ms.drop d
  few : ∀ m ∈ Ms.drop d, m.length ≤ 60000
  ss : Sts (fun i => Q i ∨ i = mb) wr sv Ms
  b : Below w.heap.size w wr
  lo : ∀ j, Q j → w.heap.size ≤ j
  pk : ∀ W, Off (fun i => Q i ∨ i = mb ∨ sv.ownBlock = some i) wr W → RdI .i64 W pv zs
  pz : ∀ y ∈ zs, (Lit.int .i64 y).wf = true
theorem Kf.open (h : Kf w wr Q T mb (t.leave zs) Ms d sv pv zs nb size n) (hn : n ≤ 1000000) :
    Calls Try.prog 12 #[.iface 25 (.pointer (some ⟨T, 0, none⟩))] wr fun e w' => ∃ K s, e = .returned (.tuple #[.pointer (some ⟨K, 0, none⟩), .int .i64 0]) ∧ Kh w w' Q K T mb s Ms d sv pv zs nb size (n + 1) := by
  have hops := h.fd.ops
  have hC := leave_clean t zs
  have hO := on_leave t zs
  obtain ⟨k1, k2⟩ := h.fd.found hC hn
  have hQT : Q T := by
    obtain ⟨ka, sa, K, S, ck, cs, kv, sv, h⟩ := h.tp
    exact h.q.1
  refine (open_any h.tp h.fd.ok (by omega) hO.1 hO.2).mono ?_
  rintro e w' ⟨K, rfl, hK, hS, hF⟩
  have hF' : Off Q wr w' := hF.imp (fun i _ h' => by rw [h']; exact hQT)
  exact ⟨K, _, rfl, hS, k2, hC, hO.stepN _, h.fd.nb, h.fd.size, k1, fun m hm => Nat.le_trans (h.fd.fit m hm).2 (room_le h.fd.ok |> fun h => by omega), h.ss.off (hF'.imp (fun i _ h' => .inl h')), h.b.trans (hF'.below h.b.size (fun j hj h' => by have := h.lo.1 j h'; omega)), h.lo.1, fun W hW => h.pk W ((hF'.imp (fun i _ h' => .inl h')).trans hW), h.pz⟩
theorem Kh.below {w' : World} (h : Kh w wr Q J T mb s Ms d sv pv zs nb size n) (hb : Below wr.heap.size wr w') : Kh w w' Q J T mb s Ms d sv pv zs nb size n :=
  ⟨h.st.below hb, h.inv, h.c, h.o, h.nb, h.size, h.mem, h.few, h.ss.below hb, h.b.trans (hb.mono h.b.size), h.lo, fun W hW => h.pk W ((Off.of_below hb).trans hW), h.pz⟩
/-- Does the journal hold the state i? -/
theorem Kh.holds {i : Nat} (h : Kh w wr Q J T mb s Ms d sv pv zs nb size n) (hd : d ≤ i) (hi : i < Ms.length) : ∃ g c b, sv = .slice (some ⟨g, 0, none⟩) Ms.length c ∧ wr.cell? ⟨g, i, none⟩ = some (.map (some b)) ∧ MAt Try.prog 38 38 wr b (Ms.getD i []) ∧ (Ms.getD i []).length ≤ 60000 ∧
    ∀ W, Below wr.heap.size wr W → Calls Try.prog 19 #[.pointer (some ⟨J, 0, none⟩), .map (some b)] W fun e w' => e = .returned (.bool (decide (s.j.m = Ms.getD i []))) ∧ Below W.heap.size W w' := by
  obtain ⟨g, c, b, e1, e2, _, _, hM⟩ := h.ss.at hi
  have hl : (Ms.getD i []).length ≤ 60000 := h.few _ (by
    rw [List.mem_drop_iff_getElem]
    refine ⟨i - d, by omega, ?_⟩
    simp [List.getD, show d + (i - d) = i by omega, hi])
  refine ⟨g, c, b, e1, e2, hM, hl, fun W hb => ?_⟩
  obtain ⟨_, b9, rv9, hJ9⟩ := h.st.below hb
  exact holds_any hJ9 (hM.below hb) (h.few _ h.mem) hl
/-- The state that is found is copied: the model of the next round. -/
theorem Kh.take {w' : World} (h : Kh w wr Q J T mb s Ms d sv pv zs nb size n) (hM : MAt Try.prog 38 38 w' wr.heap.size s.j.m) (hb : Below wr.heap.size wr w') : Kq w w' (fun j => Q j ∧ j ≠ wr.heap.size) T wr.heap.size s.t s.j.m pv zs nb size n := by
  have hcl := hM.lt
  refine ⟨(h.st.shiftS (fun j hj _ => hb.block j hj) (fun j hj h' => ⟨h', by omega⟩) (fun j hj => ⟨h.st.up j (by omega), by omega⟩)).1, Tq.of h.c h.o h.nb h.size h.inv (Nat.le_refl _), hM, fun h' => h'.2 rfl, h.b.trans (hb.mono h.b.size), ⟨fun j h' => h.lo j h'.1, h.b.size⟩, fun W hW => h.pk W (Off.step (X := fun i => Q i ∨ i = mb ∨ sv.ownBlock = some i) (Off.of_below hb) hW (fun i hi h' => ?_)), h.pz⟩
  rcases h' with h' | h'
  · exact .inl h'.1
  · omega
theorem Kq.below {w' : World} (h : Kq w wr Q T mb t M pv zs nb size n) (hb : Below wr.heap.size wr w') : Kq w w' Q T mb t M pv zs nb size n :=
  ⟨h.tp.below hb, h.q, h.m.below hb, h.nq, h.b.trans (hb.mono h.b.size), h.lo, fun W hW => h.pk W ((Off.of_below hb).trans hW), h.pz⟩
theorem Kq.more (h : Kq w wr Q T mb t M pv zs nb size n) {m : Nat} (hm : n ≤ m) : Kq w wr Q T mb t M pv zs nb size m :=
  ⟨h.tp, h.q.more hm, h.m, h.nq, h.b, h.lo, h.pk, h.pz⟩
/-- The picks turn: a block more. -/
theorem Kq.turn {w' : World} {g : Nat} {pv' : Value} {zs' : List Int} (h : Kq w wr Q T mb t M pv zs nb size n) (hb : Below wr.heap.size wr w') (hg : wr.heap.size ≤ g ∧ g < w'.heap.size) (hp : RdI .i64 w' pv' zs') (hv : pv'.ownBlock = some g) (hz : ∀ y ∈ zs', (Lit.int .i64 y).wf = true) : Kq w w' (fun j => Q j ∧ j ≠ g) T mb t M pv' zs' nb size n := by
  have hml := h.m.lt
  have hup : ∀ j, wr.heap.size ≤ j → Q j := by
    obtain ⟨ka, sa, K, S, ck, cs, kv, sv, h⟩ := h.tp
    exact h.up
  refine ⟨h.tp.shift (fun j hj _ => hb.block j hj) (fun j hj h' => ⟨h', by omega⟩) (fun j hj => ⟨hup j (by omega), by omega⟩), h.q, h.m.below hb, fun h' => h.nq h'.1, h.b.trans (hb.mono h.b.size), ⟨fun j h' => h.lo.1 j h'.1, h.lo.2⟩, fun W hW => ?_, hz⟩
  obtain ⟨a, cap, rfl, h1, h2, h3⟩ := hp
  refine ⟨a, cap, rfl, h1, h2, fun j hj => ?_⟩
  obtain ⟨g', o, rfl, hc⟩ := h3 j hj
  have e : g' = g := by
    have e : some g' = some g := hv
    injection e
  subst e
  refine ⟨g', o, rfl, (World.cell?_of_block (a := ⟨g', o + j, none⟩) (hW.block g' hg.2 (fun h' => ?_))).trans hc⟩
  rcases h' with h' | h'
  · exact h'.2 rfl
  · omega
theorem rdI_of_row {w : World} {B : Nat} {e : TypeId} {v : Value} {zs : List Int} (h : w.ownsRow B e 1 v zs.length (zs.map (Value.int .i64))) (h0 : 0 < zs.length) : RdI .i64 w v zs ∧ ∃ g, v.ownBlock = some g ∧ B ≤ g ∧ g < w.heap.size := by
  rcases h.2 with ⟨rfl, h9⟩ | ⟨g, cap, cur, rfl, hb, h4, h5, h6, h7, h8⟩
  · omega
  · refine ⟨⟨some ⟨g, 0, none⟩, cap, rfl, h5, h6, fun j hj => ⟨g, 0, rfl, ?_⟩⟩, g, rfl, hb, lt_at h4⟩
    rw [cell_at h4]
    have h9 := congrArg (fun l => l[j]?) h8
    simp only [Nat.mul_one, List.getElem?_take, hj, if_true, List.getElem?_map, List.getElem?_eq_getElem hj, Option.map_some, Array.getElem?_toList] at h9
    rw [Nat.zero_add, h9]
    simp [List.getD, hj]
theorem turned_len {zs : List Int} : (zs.drop 1 ++ zs.take 1).length = zs.length := by simp; omega
theorem turned_mem {zs : List Int} {y : Int} (h : y ∈ zs.drop 1 ++ zs.take 1) : y ∈ zs := by
  rcases List.mem_append.1 h with h | h
  · exact List.mem_of_mem_drop h
  · exact List.mem_of_mem_take h
theorem turned_map {zs : List Int} (h : 0 < zs.length) : (zs.drop 1).map (Value.int .i64) ++ [Value.int .i64 (zs.getD 0 0)] = (zs.drop 1 ++ zs.take 1).map (Value.int .i64) := by
  cases zs with
  | nil => cases h
  | cons a l => simp
theorem tail_holds {w W : World} {g o n : Nat} {zs : List Int} (h : ∀ j, j < n → w.cell? ⟨g, o + j, none⟩ = some (.int .i64 (zs.getD j 0))) (hn : zs.length = n) (hb : Below w.heap.size w W) : ∀ b, some (⟨g, o + 1, none⟩ : Addr) = some b → ∀ j u, ((zs.drop 1).map (Value.int .i64))[j]? = some u → W.cell? (b.add j) = some u := by
  intro b hb' j u hj
  cases hb'
  have hjl : 1 + j < zs.length := by
    by_cases hlt : 1 + j < zs.length
    · exact hlt
    · rw [List.getElem?_eq_none (by simp; omega)] at hj; cases hj
  have h1 := h (1 + j) (by omega)
  rw [add_lit, show o + 1 + j = o + (1 + j) by omega, hb.cell (World.block_lt_of_cell? _ _ h1), h1]
  rw [List.getElem?_map, List.getElem?_drop, List.getElem?_eq_getElem hjl] at hj
  simp only [Option.map_some, Option.some.injEq] at hj
  rw [← hj]
  simp [List.getD, hjl]
theorem none_holds {W : World} {a : Addr} {zs : List Int} (hn : zs.length = 1) : ∀ b, some a = some b → ∀ j u, ((zs.drop 1).map (Value.int .i64))[j]? = some u → W.cell? (b.add j) = some u := by
  intro b hb' j u hj
  rw [List.getElem?_eq_none (by simp; omega)] at hj
  cases hj
/-- The picks have turned. -/
theorem Kq.turned {W w9 : World} {v9 : Value} (h : Kq w wr Q T mb t M pv zs nb size n) (hz : 0 < zs.length) (hW : Below wr.heap.size wr W) (hown : w9.ownsRow W.heap.size 3 1 v9 zs.length ((zs.drop 1).map (Value.int .i64) ++ [.int .i64 (zs.getD 0 0)])) (hgr : W.grownBy w9 none) : ∃ Q', Kq w w9 Q' T mb t M v9 (zs.drop 1 ++ zs.take 1) nb size n := by
  rw [turned_map hz, ← turned_len (zs := zs)] at hown
  obtain ⟨h1, g, h2, h3, h4⟩ := rdI_of_row hown (by rw [turned_len]; exact hz)
  exact ⟨_, h.turn (grow_below (v := .slice none 0 0) hW hW.size hgr (fun q hq => by cases hq)) ⟨Nat.le_trans hW.size h3, h4⟩ h1 h2 (fun y hy => h.pz y (turned_mem hy))⟩
end
end Go.Proofs.Ytkdjefnnhanhhaa
