/- Walks over the journal's laws: a tape that holds a map; JournalAgain. -/
import Derived.Test.YtkdjefnnhanhhaaZLkh
set_option linter.unusedVariables false
namespace Go.Proofs.Ytkdjefnnhanhhaa
open Go Go.RowKit Go.Mem Go.Jn
set_option linter.unusedVariables false

/-- A tape at power on that holds the map M and nothing else. -/
structure Tq (t : Tp) (M : MM) (nb size n : Nat) : Prop where
  c : Clean t
  o : On t
  ok : t.Ok
  nb : t.nb = nb
  size : t.size = size
  snd : Snd t (fun m => m = M)
  lim : ∃ top, top ≤ n ∧ Lim t top (n * 20000)
  ops : t.ops ≤ n * 20000
  fit : FitM M
  few : M.length ≤ t.room
theorem Tq.of {s : JS} {nb size n k : Nat} (hC : Clean s.t) (hO : On s.t) (h1 : s.t.nb = nb) (h2 : s.t.size = size) (hI : Inv s (fun m => m = s.j.m) k) (hk : k ≤ n) : Tq s.t s.j.m nb size n := by
  have h3 : k * 20000 ≤ n * 20000 := Nat.mul_le_mul_right _ hk
  exact ⟨hC, hO, hI.tok, h1, h2, hI.snd, ⟨s.j.top, Nat.le_trans hI.top hk, hI.lim.mono (Nat.le_refl _) h3⟩, Nat.le_trans hI.ops h3, hI.ok.fit, hI.few⟩
theorem Tq.leave {t : Tp} {M : MM} {nb size n : Nat} (h : Tq t M nb size n) (zs : List Int) : Tq (t.leave zs) M nb size n := by
  obtain ⟨top, h1, h2⟩ := h.lim
  exact ⟨leave_clean t zs, on_leave t zs, ⟨h.ok.n8, h.ok.nl, h.ok.s128, h.ok.sl⟩, h.nb, h.size, leave_snd h.snd, ⟨top, h1, leave_lim h2⟩, h.ops, h.fit, h.few⟩
theorem Tq.more {t : Tp} {M : MM} {nb size n m : Nat} (h : Tq t M nb size n) (hm : n ≤ m) : Tq t M nb size m := by
  have h3 : n * 20000 ≤ m * 20000 := Nat.mul_le_mul_right _ hm
  obtain ⟨top, h1, h2⟩ := h.lim
  exact ⟨h.c, h.o, h.ok, h.nb, h.size, h.snd, ⟨top, Nat.le_trans h1 hm, h2.mono (Nat.le_refl _) h3⟩, Nat.le_trans h.ops h3, h.fit, h.few⟩
structure Pq (w wr : World) (T mb : Nat) (t : Tp) (M : MM) (nb size n : Nat) : Prop where
  tp : TapeAt (fun j => T ≤ j ∧ j ≠ mb) wr T t
  q : Tq t M nb size n
  m : MAt Try.prog 38 38 wr mb M
  b : Below w.heap.size w wr
  h : w.heap.size ≤ T ∧ T ≠ mb ∧ w.heap.size ≤ mb
section
variable {w wr : World} {J T mb nb size n : Nat} {s : JS} {t : Tp} {M : MM}
theorem Pl.toPq (h : Pl w wr J T mb s nb size n) (hC : Clean s.t) (hI : ∃ k, Inv s (fun m => m = s.j.m) k ∧ k ≤ n) : Pq w wr T mb s.t s.j.m nb size n := by
  obtain ⟨k, h1, h2⟩ := hI
  exact ⟨h.g.st.1, Tq.of hC h.g.on h.g.nb h.g.size h1 h2, h.m, h.b, h.h⟩
theorem Pq.open (h : Pq w wr T mb t M nb size n) (hn : n ≤ 1000000) :
    Calls Try.prog 12 #[.iface 25 (.pointer (some ⟨T, 0, none⟩))] wr fun e w' => ∃ K s', e = .returned (.tuple #[.pointer (some ⟨K, 0, none⟩), .int .i64 0]) ∧ Pl w w' K T mb s' nb size (n + 1) ∧ Clean s'.t ∧ (∃ k', Inv s' (fun m => m = s'.j.m) k' ∧ k' ≤ n + 1) ∧ s'.j.m = M := by
  obtain ⟨top, h1, h2⟩ := h.q.lim
  have hops := h.q.ops
  obtain ⟨k1, k2⟩ := open_inv h.q.c h.q.snd h2 h.q.ok h1 h.q.ops hn (fun m hm => by rw [hm]; exact ⟨h.q.fit, h.q.few⟩)
  refine (open_any h.tp h.q.ok (by omega) h.q.o.1 h.q.o.2).mono ?_
  rintro e w' ⟨K, rfl, hK, hS, hF⟩
  have hb : Below w.heap.size w w' := h.b.trans (hF.below h.b.size (fun j hj h' => by have := h.h; omega))
  refine ⟨K, _, rfl, ⟨⟨hS, ⟨_, n + 1, k2, Nat.le_refl _⟩, h.q.o.stepN _, h.q.nb, h.q.size⟩, ?_, hb, h.h⟩, h.q.c, ⟨n + 1, k2, Nat.le_refl _⟩, k1⟩
  rw [show (JS.mk (openF t.last t.nb t.size) (t.stepN t.nb)).j.m = M from k1]
  exact h.m.same (hF.block mb h.m.lt (fun e => h.h.2.1 e.symm))
theorem Pq.leave (h : Pq w wr T mb t M nb size n) (v : Value) (zs : List Int) (hp : RdI .i64 w v zs) (hz : ∀ y ∈ zs, (Lit.int .i64 y).wf = true) (hn : n ≤ 1000000) :
    Calls Try.prog 21 #[.pointer (some ⟨T, 0, none⟩), v] wr fun e w' => (∃ u, e = .returned u) ∧ Pq w w' T mb (t.leave zs) M nb size n := by
  have hops := h.q.ops
  have hnb := h.q.ok.nl
  have hn8 := h.q.ok.n8
  refine (leave_any h.tp (by omega) (by omega) (by omega) v zs (fun W hW => hp.below (h.b.trans (hW.below h.b.size (fun j hj h' => by have := h.h; omega)))) hz).mono ?_
  rintro e w' ⟨hv, hT, hF⟩
  exact ⟨hv, hT, h.q.leave zs, h.m.same (hF.block mb h.m.lt (fun h' => h'.2 rfl)), h.b.trans (hF.below h.b.size (fun j hj h' => by have := h.h; omega)), h.h⟩
end
end Go.Proofs.Ytkdjefnnhanhhaa
