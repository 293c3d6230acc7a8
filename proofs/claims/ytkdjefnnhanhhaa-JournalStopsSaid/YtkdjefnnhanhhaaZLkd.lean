/- Walks over the journal's laws: a journal's calls at power on; JournalLong. -/
import Derived.Test.YtkdjefnnhanhhaaZLkb
import Derived.Test.YtkdjefnnhanhhaaUy
set_option linter.unusedVariables false
namespace Go.Proofs.Ytkdjefnnhanhhaa
open Go Go.RowKit Go.Mem Go.Jn
set_option linter.unusedVariables false

/-- A journal that runs. -/
structure Gd (Q : Nat → Prop) (w : World) (J T : Nat) (s : JS) (nb size n : Nat) : Prop where
  st : JSt Q w J T s
  inv : ∃ A k, Inv s A k ∧ k ≤ n
  on : On s.t
  nb : s.t.nb = nb
  size : s.t.size = size
section
variable {Q : Nat → Prop} {w : World} {J T : Nat} {s : JS} {nb size n : Nat}
theorem Gd.more (h : Gd Q w J T s nb size n) {m : Nat} (hm : n ≤ m) : Gd Q w J T s nb size m := by
  obtain ⟨A, k, h1, h2⟩ := h.inv
  exact ⟨h.st, ⟨A, k, h1, by omega⟩, h.on, h.nb, h.size⟩
theorem Gd.below {w' : World} (h : Gd Q w J T s nb size n) (hb : Below w.heap.size w w') : Gd Q w' J T s nb size n := ⟨h.st.below hb, h.inv, h.on, h.nb, h.size⟩
theorem Gd.few (h : Gd Q w J T s nb size n) : s.j.m.length ≤ 7000 := by
  obtain ⟨A, k, h1, h2⟩ := h.inv
  have := room_le h1.tok
  have := h1.few
  omega
theorem Gd.ris (h : Gd Q w J T s nb size n) : RisM s.j.m := by
  obtain ⟨A, k, h1, h2⟩ := h.inv
  exact h1.ok.fit.1
theorem Gd.set (h : Gd Q w J T s nb size n) (hn : n ≤ 1000000) (k v : Nat) (hk : k < 18446744073709551616) (hv : v < 18446744073709551616) :
    Calls Try.prog 14 #[.pointer (some ⟨J, 0, none⟩), .int .u64 (k : Nat), .int .u64 (v : Nat)] w fun e w' => ∃ s', Off Q w w' ∧
      ((e = .returned (.int .i64 0) ∧ Gd Q w' J T s' nb size (n + 1) ∧ s'.j.m = putM k v s.j.m ∧ ((getM s.j.m k).isSome = true ∨ s.j.m.length < s.t.room)) ∨
       (e = .returned (.int .i64 90) ∧ s' = s ∧ Gd Q w' J T s nb size n ∧ getM s.j.m k = none ∧ s.t.room ≤ s.j.m.length)) := by
  obtain ⟨A, i, h1, h2⟩ := h.inv
  have hset := set_inv (k := k) (v := v) h1 (by omega) hk hv
  have hons := on_set h.on h1.bad k v
  refine (jset_any h.st (h1.can (by omega)) k v hk hv).mono ?_
  rintro e w' ⟨rfl, hS, hF⟩
  rcases hset with ⟨e1, e2, e3⟩ | ⟨e1, e2, e3, e4, e5, e6⟩
  · rw [e1] at hS ⊢
    exact ⟨s, hF, .inr ⟨rfl, rfl, ⟨hS, ⟨A, i, h1, h2⟩, h.on, h.nb, h.size⟩, e2, e3⟩⟩
  · have h0 : (s.set k v).1 = 0 := by
      rcases hons.1 with h | h
      · exact h
      · rw [h] at e2; rcases e2 with e2 | e2 <;> cases e2
    obtain ⟨k1, k2⟩ := e3 h0
    exact ⟨_, hF, .inl ⟨by rw [h0], ⟨hS, ⟨_, i + 1, k1, by omega⟩, hons.2, e5.trans h.nb, e6.trans h.size⟩, k2, e1⟩⟩
theorem Gd.drop (h : Gd Q w J T s nb size n) (hn : n ≤ 1000000) (k : Nat) (hk : k < 18446744073709551616) :
    Calls Try.prog 33 #[.pointer (some ⟨J, 0, none⟩), .int .u64 (k : Nat)] w fun e w' => ∃ s', Off Q w w' ∧
      ((e = .returned (.int .i64 0) ∧ Gd Q w' J T s' nb size (n + 1) ∧ s'.j.m = delM k s.j.m ∧ (getM s.j.m k).isSome = true) ∨
       (e = .returned (.int .i64 70) ∧ s' = s ∧ Gd Q w' J T s nb size n ∧ getM s.j.m k = none)) := by
  obtain ⟨A, i, h1, h2⟩ := h.inv
  have hset := drop_inv (k := k) h1 (by omega) hk
  have hons := on_drop h.on h1.bad k
  refine (jdrop_any h.st (h1.can (by omega)) k hk).mono ?_
  rintro e w' ⟨rfl, hS, hF⟩
  rcases hset with ⟨e1, e2⟩ | ⟨e1, e2, e3, e4, e5, e6⟩
  · rw [e1] at hS ⊢
    exact ⟨s, hF, .inr ⟨rfl, rfl, ⟨hS, ⟨A, i, h1, h2⟩, h.on, h.nb, h.size⟩, e2⟩⟩
  · have h0 : (s.drop k).1 = 0 := by
      rcases hons.1 with h | h
      · exact h
      · rw [h] at e2; rcases e2 with e2 | e2 <;> cases e2
    obtain ⟨k1, k2⟩ := e3 h0
    exact ⟨_, hF, .inl ⟨by rw [h0], ⟨hS, ⟨_, i + 1, k1, by omega⟩, hons.2, e5.trans h.nb, e6.trans h.size⟩, k2, e1⟩⟩
theorem Gd.sync (h : Gd Q w J T s nb size n) (hn : n ≤ 1000000) :
    Calls Try.prog 15 #[.pointer (some ⟨J, 0, none⟩)] w fun e w' => ∃ s', Off Q w w' ∧ e = .returned (.int .i64 0) ∧ Gd Q w' J T s' nb size (n + 1) ∧ s'.j.m = s.j.m ∧ Clean s'.t ∧ ∃ k, Inv s' (fun m => m = s.j.m) k ∧ k ≤ n + 1 := by
  obtain ⟨A, i, h1, h2⟩ := h.inv
  obtain ⟨y1, y2, y3, y4, y5⟩ := sync_inv h1 (by omega)
  obtain ⟨z1, z2⟩ := on_sync h.on h1.bad
  obtain ⟨i1, i2, i3⟩ := y2 z1
  refine (jsync_any h.st (h1.can (by omega))).mono ?_
  rintro e w' ⟨rfl, hS, hF⟩
  exact ⟨_, hF, by rw [z1], ⟨hS, ⟨_, i + 1, i1, by omega⟩, z2, y4.trans h.nb, y5.trans h.size⟩, i3, i2, i + 1, i1, by omega⟩
theorem Gd.room (h : Gd Q w J T s nb size n) :
    Calls Try.prog 13 #[.pointer (some ⟨J, 0, none⟩)] w fun r w' => r = .returned (.int .i64 (s.t.room : Nat)) ∧ ∃ n, w' = w.drewN n := by
  obtain ⟨hT, b, rv, hJ⟩ := h.st
  obtain ⟨A, i, h1, h2⟩ := h.inv
  exact room_any hT hJ h1.tok
theorem Gd.get (h : Gd Q w J T s nb size n) (k : Nat) (hk : k < 18446744073709551616) :
    Calls Try.prog 16 #[.pointer (some ⟨J, 0, none⟩), .int .u64 (k : Nat)] w fun r w' => r = .returned (.tuple #[.int .u64 (((getM s.j.m k).getD 0 : Nat) : Int), .bool (getM s.j.m k).isSome]) ∧ w = w' := by
  obtain ⟨hT, b, rv, hJ⟩ := h.st
  exact get_any hJ k hk
/-- A new tape's journal. -/
theorem Gd.new {w w1 : World} {T nb size : Nat} (h1 : 8 ≤ nb) (h2 : nb ≤ 1000) (h3 : 128 ≤ size) (h4 : size ≤ 1000) (hT : TapeAt (fun j => w.heap.size ≤ j) w1 T (tp0 nb size)) :
    Calls Try.prog 12 #[.iface 25 (.pointer (some ⟨T, 0, none⟩))] w1 fun e w' => ∃ J s, e = .returned (.tuple #[.pointer (some ⟨J, 0, none⟩), .int .i64 0]) ∧ w1.heap.size ≤ J ∧ Gd (fun j => w.heap.size ≤ j) w' J T s nb size 1 ∧ Off (fun j => w.heap.size ≤ j) w1 w' ∧ s.j.m = [] := by
  refine (openNew_any h1 h2 h3 h4 hT).mono ?_
  rintro e w' ⟨J, s, rfl, k1, k2, k3, k4, k5, k6, k7, k8⟩
  exact ⟨J, s, rfl, k1, ⟨k2, ⟨_, 1, k5, Nat.le_refl _⟩, k6, k7, k8⟩, k3, k4⟩
/-- A journal that is opened again behind a sync. -/
theorem Gd.again (h : Gd Q w J T s nb size n) (hC : Clean s.t) {k : Nat} (hI : Inv s (fun m => m = s.j.m) k) (hk : k ≤ n) (hn : n ≤ 1000000) :
    Calls Try.prog 12 #[.iface 25 (.pointer (some ⟨T, 0, none⟩))] w fun e w' => ∃ K s', e = .returned (.tuple #[.pointer (some ⟨K, 0, none⟩), .int .i64 0]) ∧ w.heap.size ≤ K ∧ Gd Q w' K T s' nb size (n + 1) ∧ Off (fun i => i = T) w w' ∧ s'.j.m = s.j.m ∧ Clean s'.t ∧ ∃ k', Inv s' (fun m => m = s'.j.m) k' ∧ k' ≤ n + 1 := by
  refine (reopen_any h.st hI hC h.on (by omega)).mono ?_
  rintro e w' ⟨K, s', rfl, k1, k2, k3, k4, k5, k6, k7, k8, k9⟩
  exact ⟨K, s', rfl, k1, ⟨k2, ⟨_, k + 1, k5, by omega⟩, k7, k8.trans h.nb, k9.trans h.size⟩, k3, k4, k6, k + 1, by rw [k4]; exact k5, by omega⟩
end
/-- What JournalLong's journal holds. -/
def longM (most : Nat) : Nat → MM
  | 0 => []
  | I + 1 => putM (I % most) I (longM most I)
theorem len_longM (most : Nat) : ∀ I, (longM most I).length ≤ I
  | 0 => Nat.le_refl _
  | I + 1 => by
    have h1 := len_longM most I
    have h2 := len_putM (I % most) I (longM most I)
    unfold longM
    omega
theorem mod_pred {d m : Nat} (hm : 0 < m) (h : d % m ≠ 0) : (d - 1) % m = d % m - 1 := by
  have h1 := Nat.div_add_mod d m
  have h2 := Nat.mod_lt d hm
  rw [show d - 1 = m * (d / m) + (d % m - 1) from by omega, Nat.mul_add_mod, Nat.mod_eq_of_lt (by omega)]
theorem get_longM {most : Nat} (hm : 0 < most) {k : Nat} (hk : k < most) : ∀ I, getM (longM most I) k = if k < I then some (I - 1 - (I - 1 - k) % most) else none
  | 0 => rfl
  | I + 1 => by
    unfold longM
    rw [get_putM, get_longM hm hk I]
    have h1 := Nat.div_add_mod I most
    by_cases e : k = I % most
    · have hz : (I - k) % most = 0 := by
        rw [show I - k = most * (I / most) from by omega]; exact Nat.mul_mod_right _ _
      have hle := Nat.mod_le I most
      rw [if_pos e, if_pos (by omega), show I + 1 - 1 - k = I - k from by omega, hz]
      rfl
    · rw [if_neg e]
      by_cases hki : k < I
      · have hnz : (I - k) % most ≠ 0 := fun hz => by
          have h2 := Nat.div_add_mod (I - k) most
          rw [hz] at h2
          apply e
          rw [show I = most * ((I - k) / most) + k from by omega, Nat.mul_add_mod, Nat.mod_eq_of_lt hk]
        have h3 := mod_pred hm hnz
        have h4 := Nat.mod_le (I - k) most
        rw [if_pos hki, if_pos (by omega), show I - 1 - k = I - k - 1 from by omega, h3, show I + 1 - 1 - k = I - k from by omega]
        congr 1
        omega
      · have : k ≠ I := fun e' => e (by rw [← e', Nat.mod_eq_of_lt hk])
        rw [if_neg hki, if_neg (by omega)]
theorem room_longM {most I : Nat} (hm : 0 < most) (h : getM (longM most I) (I % most) = none) : (longM most I).length < most := by
  have hk := Nat.mod_lt I hm
  rw [get_longM hm hk I] at h
  have h1 := len_longM most I
  by_cases h2 : I % most < I
  · rw [if_pos h2] at h; cases h
  · have := Nat.mod_le I most
    omega
end Go.Proofs.Ytkdjefnnhanhhaa
