/- The sum of bytes (CRC-32), plain: one bit, four bits by a table, eight bits; what differs stays apart. No program in sight. -/
import Derived.Test.YtkdjefnnhanhhaaUa
set_option linter.unusedVariables false
namespace Go.Pg

def poly : Nat := 3988292384
/-- One bit. -/
def st (x : Nat) : Nat := x / 2 ^^^ (if x % 2 = 1 then poly else 0)
def st4 (x : Nat) : Nat := st (st (st (st x)))
/-- One byte. -/
def cb (x c : Nat) : Nat := st4 (st4 (x ^^^ c))
/-- The register behind bytes. -/
def cs (x : Nat) (l : List Nat) : Nat := l.foldl cb x
/-- The sum of bytes behind those of another sum. -/
def more (x : Nat) (l : List Nat) : Nat := cs (x ^^^ 4294967295) l ^^^ 4294967295
def sum (l : List Nat) : Nat := more 0 l

theorem xor_half (a b : Nat) : (a ^^^ b) / 2 = a / 2 ^^^ b / 2 := by
  apply Nat.eq_of_testBit_eq
  intro i
  simp only [Nat.testBit_xor, Nat.testBit_div_two]
theorem xor_odd (a b : Nat) : (a ^^^ b) % 2 = (a % 2 + b % 2) % 2 := by
  have h := Nat.testBit_xor a b 0
  simp only [Nat.testBit_zero] at h
  have hm := Nat.mod_two_eq_zero_or_one (a ^^^ b)
  rcases hm with hm | hm <;> rcases Nat.mod_two_eq_zero_or_one a with ha | ha <;> rcases Nat.mod_two_eq_zero_or_one b with hb | hb <;> simp only [ha, hb, hm] at h ⊢ <;> simp at h
theorem st_xor (a b : Nat) : st (a ^^^ b) = st a ^^^ st b := by
  unfold st
  rw [xor_half, xor_odd]
  rcases Nat.mod_two_eq_zero_or_one a with ha | ha <;> rcases Nat.mod_two_eq_zero_or_one b with hb | hb <;> simp only [ha, hb] <;>
    (apply Nat.eq_of_testBit_eq; intro i; simp [Nat.testBit_xor]) <;> (cases Nat.testBit (a/2) i <;> cases Nat.testBit (b/2) i <;> cases Nat.testBit poly i <;> rfl)
theorem st4_xor (a b : Nat) : st4 (a ^^^ b) = st4 a ^^^ st4 b := by simp only [st4, st_xor]
theorem st_even (y : Nat) : st (2 * y) = y := by
  unfold st
  rw [if_neg (by omega), Nat.mul_div_cancel_left _ (by decide), Nat.xor_zero]
theorem st4_even (y : Nat) : st4 (16 * y) = y := by
  unfold st4
  rw [show 16 * y = 2 * (2 * (2 * (2 * y))) by omega, st_even, st_even, st_even, st_even]
theorem split16 (x : Nat) : x = 16 * (x / 16) ^^^ x % 16 := by
  apply Nat.eq_of_testBit_eq
  intro i
  rw [Nat.testBit_xor, show 16 * (x / 16) = 2 ^ 4 * (x / 2 ^ 4) from rfl, show x % 16 = x % 2 ^ 4 from rfl, Nat.testBit_two_pow_mul, Nat.testBit_mod_two_pow, Nat.testBit_div_two_pow]
  by_cases h : i < 4
  · simp [h, show ¬ 4 ≤ i by omega]
  · simp [h, show 4 ≤ i by omega, show i - 4 + 4 = i by omega]
/-- Four bits by the table. -/
theorem st4_tab (x : Nat) : st4 x = x / 16 ^^^ st4 (x % 16) := by
  have h := congrArg st4 (split16 x)
  rw [st4_xor, st4_even] at h
  exact h
def tab (i : Nat) : Nat := #[0x00000000, 0x1db71064, 0x3b6e20c8, 0x26d930ac, 0x76dc4190, 0x6b6b51f4, 0x4db26158, 0x5005713c, 0xedb88320, 0xf00f9344, 0xd6d6a3e8, 0xcb61b38c, 0x9b64c2b0, 0x86d3d2d4, 0xa00ae278, 0xbdbdf21c].getD i 0
theorem tab_st4 : ∀ i, i < 16 → tab i = st4 i := by decide +kernel
theorem st4_by (x : Nat) : st4 x = x / 16 ^^^ tab (x % 16) := by rw [st4_tab, tab_st4 _ (Nat.mod_lt _ (by decide))]

theorem st_lt {x : Nat} (h : x < 4294967296) : st x < 4294967296 := by
  unfold st
  refine Nat.xor_lt_two_pow (n := 32) (by omega) ?_
  split
  · decide
  · decide
theorem st4_lt {x : Nat} (h : x < 4294967296) : st4 x < 4294967296 := st_lt (st_lt (st_lt (st_lt h)))
theorem cb_lt {x c : Nat} (h : x < 4294967296) (hc : c < 256) : cb x c < 4294967296 :=
  st4_lt (st4_lt (Nat.xor_lt_two_pow (n := 32) h (by omega)))
theorem cs_lt {l : List Nat} : ∀ {x : Nat}, x < 4294967296 → (∀ y ∈ l, y < 256) → cs x l < 4294967296 := by
  induction l with
  | nil => intro x h _; exact h
  | cons c l ih => intro x h hl; exact ih (cb_lt h (hl c (by simp))) (fun y hy => hl y (by simp [hy]))
theorem more_lt {x : Nat} {l : List Nat} (h : x < 4294967296) (hl : ∀ y ∈ l, y < 256) : more x l < 4294967296 :=
  Nat.xor_lt_two_pow (n := 32) (cs_lt (Nat.xor_lt_two_pow (n := 32) h (by decide)) hl) (by decide)
theorem sum_lt {l : List Nat} (hl : ∀ y ∈ l, y < 256) : sum l < 4294967296 := more_lt (by decide) hl
theorem cs_app (x : Nat) (a b : List Nat) : cs x (a ++ b) = cs (cs x a) b := List.foldl_append
theorem xor_twice (x y : Nat) : x ^^^ y ^^^ y = x := by rw [Nat.xor_assoc, Nat.xor_self, Nat.xor_zero]
theorem more_app (x : Nat) (a b : List Nat) : more (more x a) b = more x (a ++ b) := by
  unfold more
  rw [xor_twice, cs_app]

/-! ### One bit as the document has it -/
def sb (x c k : Nat) : Nat := if x % 2 ≠ c / 2 ^ k % 2 then x / 2 ^^^ poly else x / 2
def sbs (x c : Nat) : Nat → Nat
  | 0 => x
  | k + 1 => sb (sbs x c k) c k
def sts (x : Nat) : Nat → Nat
  | 0 => x
  | k + 1 => st (sts x k)
theorem sbs_sts (x c : Nat) : ∀ k, sts (x ^^^ c) k = sbs x c k ^^^ c / 2 ^ k
  | 0 => by simp [sts, sbs]
  | k + 1 => by
    simp only [sts, sbs, sbs_sts x c k, sb]
    generalize sbs x c k = y
    have e : c / 2 ^ (k + 1) = c / 2 ^ k / 2 := by rw [Nat.pow_succ, Nat.div_div_eq_div_mul]
    rw [e]
    generalize c / 2 ^ k = d
    unfold st
    rw [xor_half, xor_odd]
    rcases Nat.mod_two_eq_zero_or_one y with ha | ha <;> rcases Nat.mod_two_eq_zero_or_one d with hb | hb <;> simp only [ha, hb] <;>
      (apply Nat.eq_of_testBit_eq; intro i; simp [Nat.testBit_xor]) <;> (cases Nat.testBit (y/2) i <;> cases Nat.testBit (d/2) i <;> cases Nat.testBit poly i <;> rfl)
theorem sbs_cb {x c : Nat} (hc : c < 256) : sbs x c 8 = cb x c := by
  have h := sbs_sts x c 8
  rw [show c / 2 ^ 8 = 0 from Nat.div_eq_of_lt hc, Nat.xor_zero] at h
  rw [← h]; rfl

/-! ### What differs stays apart -/
theorem st_inj {a b : Nat} (ha : a < 4294967296) (hb : b < 4294967296) (h : st a = st b) : a = b := by
  have hz : st (a ^^^ b) = 0 := by rw [st_xor, h, Nat.xor_self]
  have hlt : a ^^^ b < 4294967296 := Nat.xor_lt_two_pow (n := 32) ha hb
  have h0 : a ^^^ b = 0 := by
    generalize a ^^^ b = d at *
    unfold st at hz
    by_cases hd : d % 2 = 1
    · rw [if_pos hd] at hz
      have e : d / 2 = poly := by
        have := congrArg (· ^^^ poly) hz
        simpa [Nat.xor_assoc] using this
      unfold poly at e
      omega
    · rw [if_neg hd, Nat.xor_zero] at hz
      omega
  have := congrArg (· ^^^ b) h0
  simpa [Nat.xor_assoc] using this
theorem st4_inj {a b : Nat} (ha : a < 4294967296) (hb : b < 4294967296) (h : st4 a = st4 b) : a = b :=
  st_inj ha hb (st_inj (st_lt ha) (st_lt hb) (st_inj (st_lt (st_lt ha)) (st_lt (st_lt hb)) (st_inj (st_lt (st_lt (st_lt ha))) (st_lt (st_lt (st_lt hb))) h)))
theorem xor_cancel {a b c : Nat} (h : a ^^^ c = b ^^^ c) : a = b := by
  have := congrArg (· ^^^ c) h
  simpa [xor_twice] using this
theorem cb_inj {a b c : Nat} (ha : a < 4294967296) (hb : b < 4294967296) (hc : c < 256) (h : cb a c = cb b c) : a = b := by
  have hx : ∀ z, z < 4294967296 → z ^^^ c < 4294967296 := fun z hz => Nat.xor_lt_two_pow (n := 32) hz (by omega)
  exact xor_cancel (st4_inj (hx a ha) (hx b hb) (st4_inj (st4_lt (hx a ha)) (st4_lt (hx b hb)) h))
theorem cs_inj {l : List Nat} : ∀ {a b : Nat}, a < 4294967296 → b < 4294967296 → (∀ y ∈ l, y < 256) → cs a l = cs b l → a = b := by
  induction l with
  | nil => intro a b _ _ _ h; exact h
  | cons c l ih =>
    intro a b ha hb hl h
    exact cb_inj ha hb (hl c (by simp)) (ih (cb_lt ha (hl c (by simp))) (cb_lt hb (hl c (by simp))) (fun y hy => hl y (by simp [hy])) h)
end Go.Pg
/- Numbers as bytes, the lowest first; how many bits of bytes are 1. Plain. -/
namespace Go.Pg

/-- A number's bytes. -/
def low (n k : Nat) : List Nat := (List.range k).map fun i => n / 256 ^ i % 256
/-- The number of bytes. -/
def num : List Nat → Nat
  | [] => 0
  | b :: l => b + 256 * num l
theorem low_len (n k : Nat) : (low n k).length = k := by simp [low]
theorem low_lt (n k : Nat) : ∀ y ∈ low n k, y < 256 := by
  intro y hy
  obtain ⟨i, _, rfl⟩ := List.mem_map.1 hy
  exact Nat.mod_lt _ (by decide)
theorem low_succ (n k : Nat) : low n (k + 1) = n % 256 :: low (n / 256) k := by
  unfold low
  rw [List.range_succ_eq_map, List.map_cons, List.map_map]
  simp only [Nat.pow_zero, Nat.div_one]
  congr 1
  apply List.map_congr_left
  intro i _
  simp only [Function.comp]
  rw [Nat.div_div_eq_div_mul, Nat.pow_succ, Nat.mul_comm 256]
theorem low_snoc (n k : Nat) : low n (k + 1) = low n k ++ [n / 256 ^ k % 256] := by
  unfold low
  rw [List.range_succ, List.map_append]; rfl
theorem num_low (k : Nat) : ∀ n, num (low n k) = n % 256 ^ k := by
  induction k with
  | zero => intro n; simp [low, num, Nat.mod_one]
  | succ k ih =>
    intro n
    rw [low_succ, num, ih, Nat.pow_succ, Nat.mul_comm (256 ^ k) 256, Nat.mod_mul]
theorem num_low_lt {n k : Nat} (h : n < 256 ^ k) : num (low n k) = n := by rw [num_low, Nat.mod_eq_of_lt h]
theorem num_lt {l : List Nat} (h : ∀ y ∈ l, y < 256) : num l < 256 ^ l.length := by
  induction l with
  | nil => simp [num]
  | cons b l ih =>
    have h1 := h b (by simp)
    have h2 := ih (fun y hy => h y (by simp [hy]))
    rw [num, List.length_cons, Nat.pow_succ]
    omega
theorem low_num {l : List Nat} (h : ∀ y ∈ l, y < 256) : low (num l) l.length = l := by
  induction l with
  | nil => rfl
  | cons b l ih =>
    have h1 := h b (by simp)
    rw [List.length_cons, low_succ, num]
    rw [show (b + 256 * num l) % 256 = b by omega, show (b + 256 * num l) / 256 = num l by omega, ih (fun y hy => h y (by simp [hy]))]
theorem num_inj {a b : List Nat} (hl : a.length = b.length) (ha : ∀ y ∈ a, y < 256) (hb : ∀ y ∈ b, y < 256) (h : num a = num b) : a = b := by
  rw [← low_num ha, ← low_num hb, h, hl]
theorem low_inj {a b k : Nat} (ha : a < 256 ^ k) (hb : b < 256 ^ k) (h : low a k = low b k) : a = b := by
  rw [← num_low_lt ha, ← num_low_lt hb, h]
theorem low_zero (k : Nat) : low 0 k = List.replicate k 0 := by
  apply List.ext_getElem (by simp [low])
  intro i h1 h2
  simp [low]
/-- A byte more at the high end. -/
theorem num_snoc (l : List Nat) (b : Nat) : num (l ++ [b]) = num l + b * 256 ^ l.length := by
  induction l with
  | nil => simp [num]
  | cons c l ih =>
    have e : b * 256 ^ (l.length + 1) = 256 * (b * 256 ^ l.length) := by rw [Nat.pow_succ, ← Nat.mul_assoc, Nat.mul_comm]
    rw [List.cons_append, num, num, ih, List.length_cons, e]; omega
theorem num_rep (l : List Nat) (k : Nat) : num (l ++ List.replicate k 0) = num l := by
  induction k with
  | zero => simp
  | succ k ih => rw [List.replicate_succ', ← List.append_assoc, num_snoc, ih]; simp

/-- How many bits of a byte are 1. -/
def pc (c : Nat) : Nat := c % 2 + c / 2 % 2 + c / 4 % 2 + c / 8 % 2 + c / 16 % 2 + c / 32 % 2 + c / 64 % 2 + c / 128 % 2
def ones (l : List Nat) : Nat := (l.map pc).sum
theorem pc_le (c : Nat) : pc c ≤ 8 := by unfold pc; omega
theorem ones_le (l : List Nat) : ones l ≤ 8 * l.length := by
  induction l with
  | nil => simp [ones]
  | cons c l ih => have := pc_le c; simp only [ones, List.map_cons, List.sum_cons, List.length_cons] at *; omega
theorem ones_app (a b : List Nat) : ones (a ++ b) = ones a + ones b := by simp [ones]
theorem ones_snoc (l : List Nat) (c : Nat) : ones (l ++ [c]) = ones l + pc c := by simp [ones]
theorem ones_rep (k : Nat) : ones (List.replicate k 0) = 0 := by
  induction k with
  | zero => rfl
  | succ k ih => rw [List.replicate_succ]; simp only [ones, List.map_cons, List.sum_cons] at *; rw [ih]; rfl
theorem ones_full (k : Nat) : ones (List.replicate k 255) = 8 * k := by
  induction k with
  | zero => rfl
  | succ k ih => rw [List.replicate_succ]; simp only [ones, List.map_cons, List.sum_cons] at *; rw [ih, show pc 255 = 8 from rfl]; omega
/-- One bit turned turns the count by one. -/
theorem pc_turn : ∀ c, c < 256 → ∀ j, j < 8 → pc (c ^^^ 2 ^ j) = if c.testBit j then pc c - 1 else pc c + 1 := by decide +kernel
theorem pc_pos : ∀ c, c < 256 → ∀ j, j < 8 → c.testBit j = true → 1 ≤ pc c := by decide +kernel
theorem ones_set (l : List Nat) (i c : Nat) (h : i < l.length) : ones (l.set i c) + pc (l.getD i 0) = ones l + pc c := by
  induction l generalizing i with
  | nil => simp at h
  | cons b l ih =>
    cases i with
    | zero => simp only [List.set_cons_zero, ones, List.map_cons, List.sum_cons, List.getD_cons_zero]; omega
    | succ i =>
      have := ih i (by simpa using h)
      simp only [List.set_cons_succ, ones, List.map_cons, List.sum_cons, List.getD_cons_succ] at *
      omega
theorem take_gd (l : List Nat) (n i : Nat) (h : i < n) : (l.take n).getD i 0 = l.getD i 0 := by
  rw [List.getD_eq_getElem?_getD, List.getD_eq_getElem?_getD, List.getElem?_take, if_pos h]
theorem drop_gd (l : List Nat) (n i : Nat) : (l.drop n).getD i 0 = l.getD (n + i) 0 := by
  rw [List.getD_eq_getElem?_getD, List.getD_eq_getElem?_getD, List.getElem?_drop]
theorem app_gd (a b : List Nat) (i : Nat) : (a ++ b).getD i 0 = if i < a.length then a.getD i 0 else b.getD (i - a.length) 0 := by
  rw [List.getD_eq_getElem?_getD, List.getD_eq_getElem?_getD, List.getD_eq_getElem?_getD]
  split
  · rename_i h; rw [List.getElem?_append_left h]
  · rename_i h; rw [List.getElem?_append_right (by omega)]
end Go.Pg
/- Slots and heads as bytes. Plain. -/
namespace Go.Proofs.Ytkdjefnnhanhhaa
open Go.RowKit Go.Mem Go.Pg

/-! ### Heads, slots -/
structure Slot where
  key : Nat
  st : Int
  seq : Nat
structure Head where
  kind : Int
  id : Nat
  row : Int
  place : Int
  width : Int
  slots : List Slot
def Slot.zero : Slot := ⟨0, 0, 0⟩
/-- As its types have it. -/
def Slot.Fit (s : Slot) : Prop := s.key < 4294967296 ∧ (Lit.int .i64 s.st).wf = true ∧ s.seq < 18446744073709551616
def Slot.Ok (s : Slot) : Prop := 0 ≤ s.st ∧ s.st ≤ 3 ∧ s.seq < 281474976710656
instance (s : Slot) : Decidable s.Ok := by unfold Slot.Ok; infer_instance
/-- As its types have it. -/
def Head.Fit (h : Head) : Prop := h.id < 4294967296 ∧ ∀ s ∈ h.slots, s.key < 4294967296
def Head.May (N : Nat) (h : Head) : Prop := (1 ≤ h.kind ∧ h.kind ≤ 3 ∧ 0 ≤ h.row ∧ h.row < 65536 ∧ 0 ≤ h.place ∧ h.place < 256 ∧ 0 ≤ h.width ∧ h.width < 256 ∧ h.slots.length = N) ∧ ∀ s ∈ h.slots, s.Ok
instance (N : Nat) (h : Head) : Decidable (h.May N) := by unfold Head.May; infer_instance
def slotB (s : Slot) : List Nat := low s.key 4 ++ [s.st.toNat] ++ low s.seq 6
def headB (h : Head) : List Nat := [h.kind.toNat] ++ low h.id 4 ++ low h.row.toNat 2 ++ [h.place.toNat, h.width.toNat] ++ h.slots.flatMap slotB
theorem slotB_len (s : Slot) : (slotB s).length = 11 := by simp [slotB, low_len]
theorem slotB_lt {s : Slot} (h : s.Ok) : ∀ y ∈ slotB s, y < 256 := by
  intro y hy
  simp only [slotB, List.mem_append, List.mem_singleton] at hy
  rcases hy with (h1 | h1) | h1
  · exact low_lt _ _ y h1
  · have := h.1; have := h.2.1; omega
  · exact low_lt _ _ y h1
theorem slots_len (l : List Slot) : (l.flatMap slotB).length = 11 * l.length := by
  induction l with
  | nil => rfl
  | cons s l ih => rw [List.flatMap_cons, List.length_append, ih, slotB_len, List.length_cons]; omega
theorem headB_len {N : Nat} {h : Head} (hm : h.May N) : (headB h).length = 9 + 11 * N := by
  have := hm.1.2.2.2.2.2.2.2.2
  unfold headB
  rw [List.length_append, slots_len, this]
  simp [low_len]
theorem headB_lt {N : Nat} {h : Head} (hm : h.May N) : ∀ y ∈ headB h, y < 256 := by
  intro y hy
  obtain ⟨⟨k1, k2, r1, r2, p1, p2, w1, w2, _⟩, hs⟩ := hm
  simp only [headB, List.mem_append, List.mem_cons, List.not_mem_nil, or_false, List.mem_flatMap] at hy
  rcases hy with (((h1 | h1) | h1) | h1 | h1) | ⟨s, h1, h2⟩
  · omega
  · exact low_lt _ _ y h1
  · exact low_lt _ _ y h1
  · omega
  · omega
  · exact slotB_lt (hs s h1) y h2

/-- Bytes from a on, so many. -/
def cut (l : List Nat) (a n : Nat) : List Nat := (l.drop a).take n
def slotP (y : List Nat) : Slot := ⟨num (cut y 0 4), (y.getD 4 0 : Nat), num (cut y 5 6)⟩
def headP (N : Nat) (x : List Nat) : Head := ⟨(x.getD 0 0 : Nat), num (cut x 1 4), (num (cut x 5 2) : Nat), (x.getD 7 0 : Nat), (x.getD 8 0 : Nat), (List.range N).map fun i => slotP (cut x (9 + 11 * i) 11)⟩

end Go.Proofs.Ytkdjefnnhanhhaa
