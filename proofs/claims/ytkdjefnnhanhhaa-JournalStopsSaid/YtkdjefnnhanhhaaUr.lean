/- What a tape holds, plain. No program in sight. -/
import Derived.Test.YtkdjefnnhanhhaaUx
import Derived.Test.YtkdjefnnhanhhaaUw
import Derived.Stop.IfaceNil
set_option linter.unusedVariables false
namespace Go.Proofs.Ytkdjefnnhanhhaa
open Go Go.RowKit Go.Mem Go.Jn
set_option linter.unusedVariables false

def Jo.zero : Jo := ⟨[], 0, 0, 0, 0, [], 0, false, true, 0⟩
/-- A root more. -/
def rt1 (s : Nat × Nat) (xs : List Nat) : Nat × Nat := match rootR xs with
  | some (g, a) => if s.1 ≤ g then (g, a) else s
  | none => s
def rtI (c : Nat → List Nat) : Nat → Nat × Nat
  | 0 => (0, 0)
  | I + 1 => rt1 (rtI c I) (c I)
/-- The greatest generation of the first I blocks of the areas. -/
def topI (c : Nat → List Nat) (g0 : Nat) : Nat → Nat
  | 0 => g0
  | I + 1 => match chunkR (c (2 + I)) with
    | some (g, _, _) => max (topI c g0 I) g
    | none => topI c g0 I
def appl (j : Jo) (l : List Rec) : Jo := l.foldl Jo.apply j
/-- k blocks more, from the I-th. -/
def replayF (c : Nat → List Nat) (first per gen : Nat) : Nat → Nat → Jo → Jo
  | 0, _, j => j
  | k + 1, I, j => match chunkR (c (first + I)) with
    | some (g, n, l) => if g = gen ∧ n = I then (if l.length < per then appl { j with block := I, rows := l } l else replayF c first per gen k (I + 1) (appl { j with block := I, rows := l } l)) else j
    | none => j
def openH (c : Nat → List Nat) (nb : Nat) : Jo := { Jo.zero with gen := (rtI c 2).1, area := (rtI c 2).2, top := topI c (rtI c 2).1 (nb - 2) }
/-- The journal of bytes. -/
def openF (c : Nat → List Nat) (nb size : Nat) : Jo :=
  if (rtI c 2).1 = 0 then openH c nb else replayF c (2 + (rtI c 2).2 * ((nb - 2) / 2)) ((size - 20) / 37) (rtI c 2).1 ((nb - 2) / 2) 0 (openH c nb)
def Tp.stepN (t : Tp) (n : Nat) : Tp := { t with ops := t.ops + n }
theorem stepN_step {t : Tp} (h1 : t.off = false) (h2 : t.cut = -1) (n : Nat) : (t.stepN n).step = t.stepN (n + 1) ∧ (t.stepN n).step.off = false := by
  unfold Tp.step Tp.stepN
  rw [h1, h2]
  exact ⟨rfl, rfl⟩
theorem root_fit {xs : List Nat} (hx : ∀ y ∈ xs, y < 256) {g a : Nat} (h : rootR xs = some (g, a)) : g < 18446744073709551616 ∧ a ≤ 1 := by
  unfold rootR at h
  split at h
  · cases h
  · rename_i l hl
    have hlx : ∀ y ∈ l, y < 256 := fun y hy => by
      unfold openB at hl
      split at hl
      · cases hl; exact hx y (List.mem_of_mem_take hy)
      · cases hl
    split at h
    · cases h
    · rename_i hn
      cases h
      have h1 := Pg.num_lt (l := (l.drop 8).take 8) (fun y hy => hlx y (List.mem_of_mem_drop (List.mem_of_mem_take hy)))
      have h2 : (256 : Nat) ^ ((l.drop 8).take 8).length ≤ 256 ^ 8 := Nat.pow_le_pow_right (by decide) (by rw [List.length_take]; omega)
      exact ⟨by omega, by rcases Nat.lt_or_ge 1 (l.getD 4 0) with h | h; exact absurd (.inr h) hn; exact h⟩
theorem num_take_lt {l : List Nat} (h : ∀ y ∈ l, y < 256) (k : Nat) : Pg.num (l.take k) < 256 ^ k := by
  have h1 := Pg.num_lt (l := l.take k) (fun y hy => h y (List.mem_of_mem_take hy))
  have h2 : (256 : Nat) ^ (l.take k).length ≤ 256 ^ k := Nat.pow_le_pow_right (by decide) (by rw [List.length_take]; omega)
  omega
theorem parse_fit {xs : List Nat} (hx : ∀ y ∈ xs, y < 256) {r : Rec} (h : parseR xs = some r) : r.Fit := by
  unfold parseR at h
  split at h
  · cases h
  · split at h
    · cases h
    · rename_i l hl
      have hlx : ∀ y ∈ l, y < 256 := fun y hy => by
        unfold openB at hl
        split at hl
        · cases hl; exact hx y (List.mem_of_mem_take (List.mem_of_mem_take hy))
        · cases hl
      split at h
      · rename_i hk
        cases h
        refine ⟨hk, fun i => ?_⟩
        have h8 : ∀ I, nsOf l I < 18446744073709551616 := fun I => num_take_lt (fun y hy => hlx y (List.mem_of_mem_drop hy)) 8
        match i with
        | 0 => exact h8 0
        | 1 => exact h8 1
        | 2 => exact h8 2
        | _ + 3 => exact h8 3
      · cases h
theorem parse_len {xs : List Nat} {r : Rec} (h : parseR xs = some r) : 37 ≤ xs.length := by
  rcases Nat.lt_or_ge xs.length 37 with h' | h'
  · unfold parseR at h; rw [if_pos h'] at h; cases h
  · exact h'
theorem allF_fit : ∀ (k : Nat) (lo : Option Nat) (xs : List Nat), (∀ y ∈ xs, y < 256) → (∀ r ∈ allF k lo xs, r.Fit) ∧ (allF k lo xs).length * 37 ≤ xs.length
  | 0, _, _, _ => ⟨fun r hr => (by cases hr), by simp [allF]⟩
  | k + 1, lo, xs, hx => by
    rw [allF]
    split
    · exact ⟨fun r hr => (by cases hr), by simp⟩
    · rename_i r hr
      split
      · exact ⟨fun r hr => (by cases hr), by simp⟩
      · have ih := allF_fit k (some r.seq) (xs.drop 37) (fun y hy => hx y (List.mem_of_mem_drop hy))
        have hl := parse_len hr
        refine ⟨fun q hq => ?_, ?_⟩
        · rcases List.mem_cons.1 hq with rfl | hq
          · exact parse_fit hx hr
          · exact ih.1 q hq
        · rw [List.length_cons]
          have h2 := ih.2
          rw [List.length_drop] at h2
          omega
theorem chunk_fit {xs : List Nat} (hx : ∀ y ∈ xs, y < 256) {g n : Nat} {l : List Rec} (h : chunkR xs = some (g, n, l)) : g < 18446744073709551616 ∧ (∀ r ∈ l, r.Fit) ∧ l.length ≤ (xs.length - 20) / 37 := by
  unfold chunkR at h
  split at h
  · cases h
  · rename_i x hxx
    have hlx : (∀ y ∈ x, y < 256) ∧ x.length ≤ xs.length - 4 := by
      unfold openB at hxx
      split at hxx
      · cases hxx; exact ⟨fun y hy => hx y (List.mem_of_mem_take hy), by rw [List.length_take]; omega⟩
      · cases hxx
    split at h
    · cases h
    · split at h
      · cases h
        have hf := allF_fit ((x.drop 16).length + 1) none (x.drop 16) (fun y hy => hlx.1 y (List.mem_of_mem_drop hy))
        refine ⟨num_take_lt hlx.1 8, fun r hr => hf.1 r (List.mem_of_mem_take hr), ?_⟩
        have h2 := hf.2
        rw [List.length_drop] at h2
        rw [List.length_take]
        have h3 : min (Pg.num ((x.drop 12).take 4)) (allR (x.drop 16)).length ≤ (allR (x.drop 16)).length := Nat.min_le_right _ _
        have h4 : (allR (x.drop 16)).length * 37 ≤ xs.length - 20 := by
          show (allF _ _ _).length * 37 ≤ _
          rw [List.length_drop]
          omega
        exact Nat.le_trans h3 ((Nat.le_div_iff_mul_le (by decide)).2 h4)
      · cases h
theorem rtI_fit {c : Nat → List Nat} : ∀ I, (∀ i, i < I → ∀ y ∈ c i, y < 256) → (rtI c I).1 < 18446744073709551616 ∧ (rtI c I).2 ≤ 1
  | 0, _ => ⟨by show 0 < _; decide, by show 0 ≤ 1; decide⟩
  | I + 1, h => by
    have ih := rtI_fit I (fun i hi => h i (by omega))
    show (rt1 (rtI c I) (c I)).1 < 18446744073709551616 ∧ (rt1 (rtI c I) (c I)).2 ≤ 1
    unfold rt1
    split
    · rename_i g a hr
      have := root_fit (h I (by omega)) hr
      split
      · exact this
      · exact ih
    · exact ih
theorem topI_fit {c : Nat → List Nat} {g0 : Nat} (hg : g0 < 18446744073709551616) : ∀ I, (∀ i, i < 2 + I → ∀ y ∈ c i, y < 256) → topI c g0 I < 18446744073709551616
  | 0, _ => hg
  | I + 1, h => by
    have ih := topI_fit hg I (fun i hi => h i (by omega))
    unfold topI
    split
    · rename_i g _ _ hr
      have := (chunk_fit (h (2 + I) (by omega)) hr).1
      omega
    · exact ih
theorem appl_snoc (j : Jo) (l : List Rec) (r : Rec) : appl j (l ++ [r]) = (appl j l).apply r := by unfold appl; rw [List.foldl_append]; rfl
theorem appl_same : ∀ (l : List Rec) (j : Jo), (appl j l).gen = j.gen ∧ (appl j l).top = j.top ∧ (appl j l).area = j.area ∧ (appl j l).block = j.block ∧ (appl j l).rows = j.rows ∧ (appl j l).dirty = j.dirty ∧ (appl j l).late = j.late ∧ (appl j l).bad = j.bad
  | [], j => ⟨rfl, rfl, rfl, rfl, rfl, rfl, rfl, rfl⟩
  | r :: l, j => appl_same l (j.apply r)
/-- What bytes may make of a journal. -/
structure Raw (j : Jo) (n : Nat) : Prop where
  seq : j.seq < 18446744073709551616
  few : j.m.length ≤ n
theorem Raw.apply {j : Jo} {n : Nat} {r : Rec} (h : Raw j n) (hr : r.Fit) : Raw (j.apply r) (n + 1) := by
  have h0 := hr.2 0
  have hs := h.seq
  refine ⟨by show max j.seq r.seq < _; have : r.ns 0 = r.seq := rfl; omega, ?_⟩
  show (if r.kind = 1 then putM r.a r.b j.m else if r.kind = 2 then delM r.a j.m else j.m).length ≤ _
  have hf := h.few
  split
  · unfold putM; rw [len_insM]; have := len_delM (k := r.a) (M := j.m); omega
  · split
    · have := len_delM (k := r.a) (M := j.m); omega
    · omega
end Go.Proofs.Ytkdjefnnhanhhaa
/- Walks over journal: Open, its first loop. -/
namespace Go.Proofs.Ytkdjefnnhanhhaa
open Go Go.RowKit Go.Mem Go.Jn
set_option linter.unusedVariables false

/-- The blocks that were read. -/
def BlA (B : Nat) (w : World) (v : Value) (n : Nat) (c : Nat → List Nat) : Prop := ∃ vs, w.ownsRow B 27 1 v n vs ∧ ∀ i, i < n → RwQ (fun g => B ≤ g) w (vs.getD i undef) (c i)
theorem BlA.same {B : Nat} {w w' : World} {v : Value} {n : Nat} {c : Nat → List Nat} (h : BlA B w v n c) (hw : ∀ j cs tt fz, B ≤ j → TT tt → w.heap[j]? = some (.cells cs tt fz) → w'.heap[j]? = some (.cells cs tt fz)) : BlA B w' v n c := by
  obtain ⟨vs, h1, h2⟩ := h
  refine ⟨vs, orow_same h1 (fun j cu e hh => ?_), fun i hi => (h2 i hi).same (fun j cs fz hq hh => hw j _ _ _ hq (.inl rfl) hh) (fun _ _ h => h)⟩
  rcases orow_form h1 with e' | ⟨g, cu', e', hg, hB⟩
  · rw [e'] at e; cases e
  · rw [e'] at e; cases e; exact hw _ _ _ _ hB (.inr (.inl rfl)) hh
theorem BlA.form {B : Nat} {w : World} {v : Value} {n : Nat} {c : Nat → List Nat} (h : BlA B w v n c) : ∃ a cap, v = .slice a n cap ∧ n ≤ cap ∧ cap ≤ maxLen := by
  obtain ⟨vs, h1, h2⟩ := h
  rcases h1.2 with ⟨rfl, h0⟩ | ⟨g, cap, cur, rfl, _, _, h3, h4, _⟩
  · exact ⟨none, 0, by rw [h0], by omega, by unfold maxLen; omega⟩
  · exact ⟨_, _, rfl, h3, h4⟩
theorem BlA.at {B : Nat} {w : World} {v : Value} {n : Nat} {c : Nat → List Nat} (h : BlA B w v n c) {i : Nat} (hi : i < n) : ∃ g cap gi ci, v = .slice (some ⟨g, 0, none⟩) n cap ∧ n ≤ cap ∧ cap ≤ maxLen ∧ w.cell? ⟨g, i, none⟩ = some (.slice (some ⟨gi, 0, none⟩) (c i).length ci) ∧ Rd .u8 w (.slice (some ⟨gi, 0, none⟩) (c i).length ci) (c i) := by
  obtain ⟨vs, h1, h2⟩ := h
  obtain ⟨gi, ci, e, _⟩ := (h2 i hi).form
  have hrd := (h2 i hi).rd
  rw [e] at hrd
  rcases h1.2 with ⟨_, h0⟩ | ⟨g, cap, cur, rfl, _, h4, h5, h6, h7, h8⟩
  · omega
  · have hl : vs.length = n := by simpa using h1.1
    have hv : vs[i]? = some (vs.getD i undef) := by rw [List.getElem?_eq_getElem (by omega)]; simp [List.getD, show i < vs.length by omega]
    refine ⟨g, cap, gi, ci, rfl, h5, h6, ?_, hrd⟩
    rw [cell_at h4, ← Array.getElem?_toList]
    have h9 := congrArg (fun l : List Value => l[i]?) h8
    simp only [List.getElem?_take, Nat.mul_one, if_pos hi] at h9
    rw [h9, hv, e]
theorem BlA.push {B : Nat} {w w5 : World} {v x : Value} {n g5 cap5 : Nat} {c : Nat → List Nat} {vs : List Value} (h1 : w.ownsRow B 27 1 v n vs) (h2 : ∀ i, i < n → RwQ (fun g => B ≤ g) w (vs.getD i undef) (c i)) (hx : RwQ (fun g => B ≤ g) w x (c n))
    (hown : w5.ownsRow B 27 1 (.slice (some ⟨g5, 0, none⟩) (n + 1) cap5) (n + 1) (vs ++ [x])) (hg : w.grownBy w5 v.ownBlock) : BlA B w5 (.slice (some ⟨g5, 0, none⟩) (n + 1) cap5) (n + 1) c := by
  have hl : vs.length = n := by simpa using h1.1
  have keep : ∀ j cs fz, w.heap[j]? = some (Obj.cells cs 5 fz) → w5.heap[j]? = some (Obj.cells cs 5 fz) := fun j cs fz hh => (hg.block j (lt_at hh) (orow_ne h1 hh (by decide))).trans hh
  refine ⟨_, hown, fun i hi => ?_⟩
  by_cases hi' : i < n
  · have e1 : (vs ++ [x]).getD i undef = vs.getD i undef := by simp only [List.getD]; rw [List.getElem?_append_left (by omega)]
    rw [e1]
    exact (h2 i hi').same (fun j cs fz _ hh => keep j cs fz hh) (fun _ _ h => h)
  · obtain rfl : i = n := by omega
    have e1 : (vs ++ [x]).getD i undef = x := by rw [← hl]; simp [List.getD]
    rw [e1]
    exact hx.same (fun j cs fz _ hh => keep j cs fz hh) (fun _ _ h => h)
/-- A journal, whosoever its blocks are. -/
abbrev Tr (_ : Nat) : Prop := True
theorem JAtC.same {Q Q' : Nat → Prop} {w w' : World} {J T b : Nat} {j : Jo} {rv : Value} (h : JAtC Q w J T j b rv) (hw : ∀ i, i < w.heap.size → (i = J ∨ i = b ∨ rv.ownBlock = some i) → w'.heap[i]? = w.heap[i]?) (hq : ∀ i, (i = J ∨ i = b ∨ rv.ownBlock = some i) → Q' i) : JAtC Q' w' J T j b rv := h.shift (fun i hi h' => ⟨hw i hi h', hq i h'⟩)
/-- A tape of which only the number of operations has changed. -/
theorem TpC.steps {Q : Nat → Prop} {w wr : World} {T K S ck cs : Nat} {t : Tp} {ka sa : Option Addr} {kv sv : Nat → Value} (h : TpC Q w T t ka sa K S ck cs kv sv) (hg : w.grownBy wr (some T)) (n : Nat)
    (hp : wr.heap[T]? = some (.cells ((t.stepN n).cells ka sa ck cs) 30 (0, 0))) : TpC Q wr T (t.stepN n) ka sa K S ck cs kv sv := by
  have keep : ∀ (j : Nat) (cu : Array Value) (tt : TypeId) (fz : Nat × Nat), w.heap[j]? = some (Obj.cells cu tt fz) → tt ≠ 30 → wr.heap[j]? = some (Obj.cells cu tt fz) := fun j cu tt fz hj hne => (hg.block j (lt_at hj) (fun e => ty_ne hj h.hp hne (Option.some.inj e))).trans hj
  exact {
    hp := hp
    ha := h.ha
    hc := h.hc
    hk := fun h0 => by obtain ⟨cur, h1, h2⟩ := h.hk h0; exact ⟨cur, keep _ _ _ _ h1 (by decide), h2⟩
    hs := fun h0 => by obtain ⟨cur, h1, h2⟩ := h.hs h0; exact ⟨cur, keep _ _ _ _ h1 (by decide), h2⟩
    rk := fun i hi => (h.rk i hi).same (fun j cs fz _ hh => keep j _ _ _ hh (by decide)) (fun _ _ h => h)
    rs := fun i hi => by
      refine (h.rs i hi).same (fun j cs tt fz _ hh ht => keep j _ _ _ hh ?_) (fun _ _ h => h)
      rcases ht with rfl | ⟨rfl, _⟩ <;> decide
    dj := h.dj
    q := h.q
    ln := fun i hi => Nat.le_trans (h.ln i hi) (Nat.le_add_right _ _)
    up := fun j hj => h.up j (Nat.le_trans hg.size hj)
    fk := h.fk
    fs := h.fs }
/-- How far the first loop has come. -/
structure Op1 (w wr : World) (T J mb : Nat) (t : Tp) (ka sa : Option Addr) (ck cs : Nat) (I : Nat) (bv : Value) : Prop where
  hp : wr.heap[T]? = some (.cells ((t.stepN I).cells ka sa ck cs) 30 (0, 0))
  jo : JAtC Tr wr J T Jo.zero mb (.slice none 0 0)
  bl : BlA w.heap.size wr bv I t.last
  fr : w.grownBy wr (some T)
  ext : w.heap.size ≤ J ∧ w.heap.size ≤ mb
set_option maxRecDepth 100000 in
set_option maxHeartbeats 3200000 in
theorem open_nil (w : World) : Calls Try.prog 12 #[Value.nilIface] w fun e w' => e = .returned (.tuple #[.pointer none, .int .i64 1]) ∧ w = w' := by
  have hie : Try.prog.isIface 62 = true := by kernel_rfl
  go_enter Try.func12, Try.ntmps12
  go_wp2; go_step3; go_wp2_with fail
  rw [Exit.noGoto_ret]
  refine bodyPost_ret (v := .tuple #[.pointer none, .int .i64 1]) (by simp [results, Try.results12, go_sem]) rfl ⟨rfl, rfl⟩
set_option maxRecDepth 100000 in
set_option maxHeartbeats 3200000 in
theorem open_small {Q : Nat → Prop} {w : World} {T : Nat} {t : Tp} (hT : TapeAt Q w T t) (hs : t.nb < 8 ∨ t.size < 128) (hn : t.nb ≤ 1000000) (hz : t.size ≤ 1000000) :
    Calls Try.prog 12 #[ifT T] w fun e w' => e = .returned (.tuple #[.pointer none, .int .i64 1]) ∧ w = w' := by
  obtain ⟨ka, sa, K, S, ck, cs, kv, sv, h⟩ := hT
  have HB := hid (blocks_any h.c1)
  have HZ := hid (bytes_any h.c0)
  have hm1 := meth_tape T
  have hm2 := meth_bytes T
  have hie : Try.prog.isIface 62 = true := by kernel_rfl
  unfold ifT
  obtain ⟨nb, hnb⟩ : ∃ n, t.nb = n := ⟨_, rfl⟩
  obtain ⟨sz, hsz⟩ : ∃ n, t.size = n := ⟨_, rfl⟩
  rw [hnb] at HB hs hn
  rw [hsz] at HZ hs hz
  clear h hnb hsz
  by_cases h8 : nb < 8
  · have e1 : (nb : Int) < 8 := by omega
    go_enter Try.func12, Try.ntmps12
    go_wp2; go_step3; go_wp2_with fail
    refine HB.out.mono ?_
    rintro e w1 ⟨rfl, rfl⟩
    go_wp2_with fail
    rw [Exit.noGoto_ret]
    refine bodyPost_ret (v := .tuple #[.pointer none, .int .i64 1]) (by simp [results, Try.results12, go_sem]) rfl ⟨rfl, rfl⟩
  · have e1 : ¬ (nb : Int) < 8 := by omega
    have e2 : (sz : Int) < 128 := by omega
    go_enter Try.func12, Try.ntmps12
    go_wp2; go_step3; go_wp2_with fail
    refine HB.out.mono ?_
    rintro e w1 ⟨rfl, rfl⟩
    go_wp2_with fail
    refine HZ.out.mono ?_
    rintro e w1 ⟨rfl, rfl⟩
    go_wp2_with fail
    rw [Exit.noGoto_ret]
    refine bodyPost_ret (v := .tuple #[.pointer none, .int .i64 1]) (by simp [results, Try.results12, go_sem]) rfl ⟨rfl, rfl⟩
end Go.Proofs.Ytkdjefnnhanhhaa
/- Walks over journal: Open. -/
namespace Go.Proofs.Ytkdjefnnhanhhaa
open Go Go.RowKit Go.Mem Go.Jn
set_option linter.unusedVariables false

theorem Op1.read {w wr w5 w7 : World} {T J mb : Nat} {t : Tp} {ka sa : Option Addr} {ck cs : Nat} {I : Nat} {bv x : Value} (h : Op1 w wr T J mb t ka sa ck cs I bv) (hTl : T < w.heap.size) (hT5 : w5.heap[T]? = some (.cells ((t.stepN (I + 1)).cells ka sa ck cs) 30 (0, 0))) (hg5 : wr.grownBy w5 (some T)) (hx : Mem.Own .u8 5 wr.heap.size w5 x (t.last I)) (hx0 : 0 < (t.last I).length) {vs : List Value}
    (hvs : wr.ownsRow w.heap.size 27 1 bv I vs) (hvr : ∀ i, i < I → RwQ (fun g => w.heap.size ≤ g) wr (vs.getD i undef) (t.last i)) {g7 c7 : Nat}
    (hown : w7.ownsRow w.heap.size 27 1 (.slice (some ⟨g7, 0, none⟩) (I + 1) c7) (I + 1) (vs ++ [x])) (hg7 : (w5.alloc (.cells #[x] 27)).grownBy w7 bv.ownBlock) : Op1 w w7 T J mb t ka sa ck cs (I + 1) (.slice (some ⟨g7, 0, none⟩) (I + 1) c7) := by
  have hTn : bv.ownBlock ≠ some T := fun e => by
    rcases orow_form hvs with e' | ⟨g, cu, e', hg, hB⟩
    · rw [e'] at e; cases e
    · rw [e'] at e; cases e; omega
  have hws : w.heap.size ≤ wr.heap.size := h.fr.size
  have keep5 : ∀ j o, wr.heap[j]? = some o → j ≠ T → w5.heap[j]? = some o := fun j o hj hne => (hg5.block j (lt_at hj) (fun e => hne (Option.some.inj e))).trans hj
  have keep7 : ∀ j o, w5.heap[j]? = some o → bv.ownBlock ≠ some j → w7.heap[j]? = some o := fun j o hj hne => (hg7.block j (by have := lt_at hj; simp; omega) (fun e => hne e.symm)).trans ((alloc_old (lt_at hj)).trans hj)
  have hbq : ∀ g, bv.ownBlock = some g → w.heap.size ≤ g ∧ ∃ cu, w5.heap[g]? = some (Obj.cells cu 27 (0, 0)) := fun g e => by
    rcases orow_form hvs with e' | ⟨g', cu, e', hg, hB⟩
    · rw [e'] at e; cases e
    · rw [e'] at e; cases e; exact ⟨hB, cu, keep5 _ _ hg (by omega)⟩
  have hmb : ∃ es c, w5.heap[mb]? = some (Obj.map es c) := by
    obtain ⟨es, c, hh⟩ := h.jo.mp.isMap
    exact ⟨es, c, keep5 _ _ hh (by have := h.ext.2; omega)⟩
  have hJ5 := keep5 _ _ h.jo.hp (by have := h.ext.1; omega)
  exact {
    hp := keep7 _ _ hT5 hTn
    jo := h.jo.same (fun i hi h' => by
      have hi5 : w5.heap[i]? = wr.heap[i]? := hg5.block i hi (fun e => by
        have := Option.some.inj e
        rcases h' with h' | h' | h'
        · have := h.ext.1; omega
        · have := h.ext.2; omega
        · cases h')
      have hne : bv.ownBlock ≠ some i := fun e => by
        obtain ⟨hB, cu, hc⟩ := hbq i e
        rcases h' with h' | h' | h'
        · rw [h', hJ5] at hc; simp at hc
        · obtain ⟨es, c, hm⟩ := hmb; rw [h', hm] at hc; cases hc
        · cases h'
      rw [← hi5]
      exact (hg7.block i (by have := hg5.size; simp; omega) (fun e => hne e.symm)).trans (alloc_old (by have := hg5.size; omega))) (fun _ _ => trivial)
    bl := by
      have hvs5 : (w5.alloc (.cells #[x] 27)).ownsRow w.heap.size 27 1 bv I vs := orow_same hvs (fun j cu e hh => (alloc_old (by have := lt_at hh; have := hg5.size; omega)).trans (keep5 _ _ hh (by
        have := (hbq j e).1; omega)))
      refine BlA.push hvs5 (fun i hi => (hvr i hi).same (fun j cs fz hq hh => (alloc_old (by have := lt_at hh; have := hg5.size; omega)).trans (keep5 _ _ hh (by omega))) (fun _ _ h => h)) ?_ hown hg7
      exact (own_rwq hx hx0 (fun j hj => (by omega : w.heap.size ≤ j))).same (fun j cs fz _ hh => (alloc_old (lt_at hh)).trans hh) (fun _ _ h => h)
    fr := ⟨hg7.os.trans (hg5.os.trans h.fr.os), hg7.tape.trans (hg5.tape.trans h.fr.tape), hg7.output.trans (hg5.output.trans h.fr.output), Nat.le_trans h.fr.size (Nat.le_trans hg5.size (Nat.le_trans (by simp) hg7.size)), fun k hk hne => by
      have h1 := h.fr.block k hk hne
      have h2 := hg5.block k (by omega) hne
      rw [← h1, ← h2]
      exact (hg7.block k (by have := hg5.size; simp; omega) (fun e => by have := (hbq k e.symm).1; omega)).trans (alloc_old (by have := hg5.size; omega))⟩
    ext := h.ext }
theorem Off.step {X Q' : Nat → Prop} {a b c : World} (h : Off X a b) (k : Off Q' b c) (hq : ∀ i, i < a.heap.size → Q' i → X i) : Off X a c :=
  ⟨k.os.trans h.os, k.tape.trans h.tape, k.output.trans h.output, Nat.le_trans h.size k.size, fun i hi hx => (k.block i (Nat.lt_of_lt_of_le hi h.size) (fun h' => hx (hq i hi h'))).trans (h.block i hi hx)⟩
theorem open_tape {Q : Nat → Prop} {w wA wF : World} {T K S ck cs J mb n : Nat} {t : Tp} {ka sa : Option Addr} {kv sv : Nat → Value} {j0 : Jo} {rv0 : Value} (h : TpC Q w T t ka sa K S ck cs kv sv) (hg : w.grownBy wA (some T)) (hp : wA.heap[T]? = some (.cells ((t.stepN n).cells ka sa ck cs) 30 (0, 0)))
    (hJ : JAtC Tr wA J T j0 mb rv0) (hF : Off (fun i => i = J ∨ i = mb) wA wF) : TapeAt Q wF T (t.stepN n) := by
  refine (TapeAt.mk' (h.steps hg n hp)).shiftT (fun i cs tt fz ht hq hh => ⟨(hF.block i (lt_at hh) (fun h' => ?_)).trans hh, hq⟩) (fun i hi => h.up i (Nat.le_trans hg.size (Nat.le_trans hF.size hi)))
  rcases h' with h' | h'
  · exact ty_ne (h' ▸ hh) hJ.hp (fun e => by subst e; revert ht; unfold TT; decide) rfl
  · obtain ⟨es, cc, hm⟩ := hJ.mp.isMap
    rw [h', hm] at hh; cases hh
theorem orec_zero {n₀ : Nat} {W : World} {v : Value} {l : List Rec} (h : ORec n₀ W v l) : ORec 0 W v l := by
  refine ⟨h.1, ?_⟩
  rcases h.2 with h' | ⟨g, cap, cur, rfl, h1, h2⟩
  · exact .inl h'
  · exact .inr ⟨g, cap, cur, rfl, Nat.zero_le _, h2⟩
theorem orec_blk {n₀ : Nat} {W : World} {v : Value} {l : List Rec} (h : ORec n₀ W v l) : ∀ g, v.ownBlock = some g → n₀ ≤ g := fun g e => by
  rcases h.2 with ⟨rfl, _⟩ | ⟨g', cap, cur, rfl, h1, h2⟩
  · cases e
  · cases e; exact h1
/-- A record more, whosoever the tape is. -/
theorem apply_open {w : World} {J T b : Nat} {j : Jo} {rv : Value} (hJ : JAtC Tr w J T j b rv) (r : Rec) (hr : ∀ i, r.ns i < 18446744073709551616) (hj : j.seq < 18446744073709551616) (hl : j.m.length ≤ 60000) :
    Calls Try.prog 25 #[.pointer (some ⟨J, 0, none⟩), r.val] w fun e w' => (∃ v, e = .returned v) ∧ JAtC Tr w' J T (j.apply r) b rv ∧ Off (fun i => i < w.heap.size → i = J ∨ i = b ∨ rv.ownBlock = some i) w w' := by
  have hJ' : JAtC (fun i => i < w.heap.size → i = J ∨ i = b ∨ rv.ownBlock = some i) w J T j b rv := hJ.shift (fun i hi h => ⟨rfl, fun _ => h⟩)
  refine (apply_core hJ' r hr hj hl).mono ?_
  rintro e w' ⟨h1, J2, F2⟩
  exact ⟨h1, J2.same (fun _ _ _ => rfl) (fun _ _ => trivial), F2⟩
theorem open_end {Q : Nat → Prop} {w wA wF : World} {T K S ck cs J mb n : Nat} {t : Tp} {ka sa : Option Addr} {kv sv : Nat → Value} {j0 jF : Jo} {rv0 rv : Value} (h : TpC Q w T t ka sa K S ck cs kv sv) (hg : w.grownBy wA (some T)) (hp : wA.heap[T]? = some (.cells ((t.stepN n).cells ka sa ck cs) 30 (0, 0)))
    (hJ : JAtC Tr wA J T j0 mb rv0) (hF : Off (fun i => i = J ∨ i = mb) wA wF) (hJF : JAtC Tr wF J T jF mb rv) (hr : ∀ g, rv.ownBlock = some g → w.heap.size ≤ g) (he : w.heap.size ≤ J ∧ w.heap.size ≤ mb) : JSt Q wF J T ⟨jF, t.stepN n⟩ ∧ Off (fun i => i = T) w wF := by
  refine ⟨⟨open_tape h hg hp hJ hF, mb, rv, hJF.same (fun _ _ _ => rfl) (fun i hi => ?_)⟩, ?_⟩
  · apply h.up
    rcases hi with hi | hi | hi
    · rw [hi]; exact he.1
    · rw [hi]; exact he.2
    · exact hr i hi
  · exact ⟨hF.os.trans hg.os, hF.tape.trans hg.tape, hF.output.trans hg.output, Nat.le_trans hg.size hF.size, fun i hi hx => (hF.block i (by have := hg.size; omega) (fun h' => by rcases h' with h' | h' <;> omega)).trans (hg.block i hi (fun e => hx (Option.some.inj e)))⟩
end Go.Proofs.Ytkdjefnnhanhhaa
