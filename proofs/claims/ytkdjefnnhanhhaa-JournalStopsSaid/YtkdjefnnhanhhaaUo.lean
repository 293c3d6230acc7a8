/- A journal, plain: an area that is being written. -/
import Derived.Test.YtkdjefnnhanhhaaUn
set_option linter.unusedVariables false
namespace Go.Proofs.Ytkdjefnnhanhhaa
open Go Go.RowKit Go.Mem Go.Jn
set_option linter.unusedVariables false

/-- The area in use tells the records R; lo of them are there whatever is lost. -/
structure Ap (s : JS) (R : List Rec) (lo b : Nat) : Prop where
  ar : Ar s.t s.j.gen s.j.area R lo
  cnt : R.length = s.j.cnt s.t.per
  rows : s.j.rows = R.drop (s.j.block * s.t.per)
  lo : lo ≤ R.length
  fin : ∀ i, i < s.t.sz → i * s.t.per < R.length → (i < s.j.block ∨ s.j.dirty = false) → chunkR (s.t.last (2 + s.j.area * s.t.sz + i)) = some (s.j.gen, i, (R.drop (i * s.t.per)).take s.t.per)
  ris : RisR R
  seq : ∀ r ∈ R, r.seq ≤ s.j.seq
  fit : ∀ r ∈ R, r.Fit
  lim : Lim s.t s.j.top b
  sb : s.j.seq ≤ b
  top : s.j.gen = s.j.top
theorem Ap.le {s : JS} {R : List Rec} {lo b : Nat} (h : Ap s R lo b) (hj : s.j.Ok s.t) : R.length ≤ s.t.sz * s.t.per := by
  rw [h.cnt]
  unfold Jo.cnt
  have h1 := hj.block
  have h2 := hj.rows
  have h3 : (s.j.block + 1) * s.t.per ≤ s.t.sz * s.t.per := Nat.mul_le_mul_right _ h1
  rw [Nat.succ_mul] at h3
  omega
theorem drop_take_app {R X : List Rec} {n v : Nat} (h : n + v ≤ R.length) : ((R ++ X).drop n).take v = (R.drop n).take v := by
  rw [List.drop_append_of_le_length (by omega), List.take_append_of_le_length (by rw [List.length_drop]; omega)]
theorem Ar.snoc {t : Tp} {g a lo : Nat} {R X : List Rec} (h : Ar t g a R lo) : Ar t g a (R ++ X) lo := fun i hi x hx => by
  rcases h i hi x hx with ⟨v, h1, h2, h3, h4⟩ | h'
  · refine .inl ⟨v, h1, by rw [List.length_append]; omega, ?_, h4⟩
    rw [drop_take_app h2]; exact h3
  · exact .inr h'
/-- A block is written. -/
theorem Ar.write {t : Tp} {g a lo blk : Nat} {R : List Rec} {b : List Nat} (h : Ar t g a R lo) (hb : ∃ v, v ≤ t.per ∧ blk * t.per + v ≤ R.length ∧ chunkR b = some (g, blk, (R.drop (blk * t.per)).take v) ∧ (lo ≤ blk * t.per + v ∨ v = t.per)) : Ar (t.write (2 + a * t.sz + blk) b) g a R lo := fun i hi x hx => by
  rw [sz_of (write_nb _ _ _), per_of (write_size _ _ _)] at *
  rcases ver_write hx with hx | ⟨hk, hxb⟩
  · exact h i hi x hx
  · have e : i = blk := by omega
    subst e
    rw [hxb]
    exact .inl hb
theorem Lim.write {t : Tp} {T b i : Nat} {x : List Nat} (h : Lim t T b) (hx : BytesN t.size x ∧ (i < 2 → ∀ g a, rootR x = some (g, a) → g ≤ T) ∧ (2 ≤ i → ∀ g n l, chunkR x = some (g, n, l) → g ≤ T ∧ ∀ r ∈ l, r.seq ≤ b)) : Lim (t.write i x) T b := fun k hk y hy => by
  rw [write_nb] at hk
  rw [write_size]
  rcases ver_write hy with hy | ⟨rfl, rfl⟩
  · exact h k hk y hy
  · exact hx
theorem Lim.mono {t : Tp} {T b T' b' : Nat} (h : Lim t T b) (hT : T ≤ T') (hb : b ≤ b') : Lim t T' b' := fun i hi x hx => by
  obtain ⟨h1, h2, h3⟩ := h i hi x hx
  refine ⟨h1, fun hi g a e => Nat.le_trans (h2 hi g a e) hT, fun hi g n l e => ?_⟩
  obtain ⟨k1, k2⟩ := h3 hi g n l e
  exact ⟨Nat.le_trans k1 hT, fun r hr => Nat.le_trans (k2 r hr) hb⟩
theorem Lim.sync {t : Tp} {T b : Nat} (h : Lim t T b) : Lim t.sync T b := fun i hi x hx => by
  rw [sync_nb] at hi
  rw [sync_size]
  exact h i hi x (ver_sync hi hx)
theorem Ar.sync {t : Tp} {g a lo : Nat} {R : List Rec} (h : Ar t g a R lo) (ha : a ≤ 1) (hn : 8 ≤ t.nb) : Ar t.sync g a R lo := fun i hi x hx => by
  rw [sz_of (sync_nb _)] at *
  rw [per_of (sync_size _)]
  refine h i hi x (ver_sync ?_ hx)
  have h2 : a * t.sz ≤ 1 * t.sz := Nat.mul_le_mul_right _ ha
  have h3 : t.sz = (t.nb - 2) / 2 := rfl
  omega
/-- The block in use is written. -/
theorem rows_full {s : JS} {R : List Rec} {lo b : Nat} (h : Ap s R lo b) : s.j.rows = (R.drop (s.j.block * s.t.per)).take s.j.rows.length ∧ s.j.block * s.t.per + s.j.rows.length ≤ R.length := by
  have hc := h.cnt
  unfold Jo.cnt at hc
  refine ⟨?_, by omega⟩
  rw [h.rows, List.take_length]
theorem ris_drop {R : List Rec} (h : RisR R) (n : Nat) : RisR (R.drop n) := List.Pairwise.sublist (List.drop_sublist n R) h
theorem block_chunk {s : JS} {R : List Rec} {lo b : Nat} (h : Ap s R lo b) (hj : s.j.Ok s.t) (ht : s.t.Ok) : chunkR (blockB s.t.size s.j.gen s.j.block s.j.rows) = some (s.j.gen, s.j.block, s.j.rows) := by
  have hp := per_le hj.rows (by have := ht.s128; omega)
  have hg := hj.gen
  have hb := hj.block
  have hs := ht.sz
  have hr := hj.rows
  have hpp := ht.per
  exact chunk_block (by omega) (by omega) hp hj.rfit (by rw [h.rows]; exact ris_drop h.ris _) (by omega)
theorem area_idx {s : JS} (hj : s.j.Ok s.t) (ht : s.t.Ok) {i : Nat} (hi : i < s.t.sz) : 2 + s.j.area * s.t.sz + i < s.t.nb := by
  have h2 : s.j.area * s.t.sz ≤ 1 * s.t.sz := Nat.mul_le_mul_right _ hj.area
  have := ht.sz
  omega
/-- What a step may turn of the tape: the area in use. -/
def Fr (s : JS) (t' : Tp) : Prop := t'.nb = s.t.nb ∧ t'.size = s.t.size ∧ ∀ k x, k < s.t.nb → Ver t' k x → Ver s.t k x ∨ ∃ i, i < s.t.sz ∧ k = 2 + s.j.area * s.t.sz + i
theorem write_step {s : JS} {R : List Rec} {lo b : Nat} (h : Ap s R lo b) (hj : s.j.Ok s.t) (ht : s.t.Ok) (hlo : lo ≤ s.j.block * s.t.per + s.j.rows.length ∨ s.j.rows.length = s.t.per) (hbd : s.j.bad = 0) :
    Ar s.write.2.t s.j.gen s.j.area R lo ∧ Lim s.write.2.t s.j.top b ∧ Fr s s.write.2.t ∧ (s.write.1 = 0 → Ap ⟨{ s.j with dirty := false }, s.write.2.t⟩ R lo b ∧ s.write.2.j = s.j) := by
  obtain ⟨hrw, hrl⟩ := rows_full h
  have hch := block_chunk h hj ht
  have hA : Ar s.write.2.t s.j.gen s.j.area R lo := h.ar.write ⟨s.j.rows.length, hj.rows, hrl, by rw [← hrw]; exact hch, hlo⟩
  have hL : Lim s.write.2.t s.j.top b := h.lim.write ⟨blockB_ok hj.rows (by have := ht.s128; omega) hj.rfit, fun hi => (by omega), fun _ g n l e => by
    rw [hch] at e; cases e
    exact ⟨by rw [h.top]; exact Nat.le_refl _, fun r hr => Nat.le_trans (h.seq r (by rw [h.rows] at hr; exact List.mem_of_mem_drop hr)) h.sb⟩⟩
  refine ⟨hA, hL, ⟨write_nb _ _ _, write_size _ _ _, fun k x hk hx => ?_⟩, fun he => ?_⟩
  · rcases ver_write hx with hx | ⟨hk, _⟩
    · exact .inl hx
    · exact .inr ⟨s.j.block, hj.block, hk⟩
  · have hsz : s.write.2.t.sz = s.t.sz := sz_of (write_nb _ _ _)
    have hper : s.write.2.t.per = s.t.per := per_of (write_size _ _ _)
    have hj2 : s.write.2.j = s.j := by
      show s.j.fail s.t.err = s.j
      have : s.t.err = 0 := he
      unfold Jo.fail; rw [if_pos this]
    refine ⟨?_, hj2⟩
    exact {
      ar := hA
      cnt := by show R.length = Jo.cnt _ s.write.2.t.per; rw [hper]; exact h.cnt
      rows := by show s.j.rows = R.drop (s.j.block * s.write.2.t.per); rw [hper]; exact h.rows
      lo := h.lo
      fin := fun i hi hl _ => by
        show chunkR (s.write.2.t.last (2 + s.j.area * s.write.2.t.sz + i)) = some (s.j.gen, i, (R.drop (i * s.write.2.t.per)).take s.write.2.t.per)
        rw [show (JS.mk { s.j with dirty := false } s.write.2.t).t = s.write.2.t from rfl] at hi hl
        rw [hsz] at hi ⊢
        rw [hper] at hl ⊢
        show chunkR ((s.t.write _ _).last _) = _
        rw [write_last he]
        by_cases e : i = s.j.block
        · subst e
          rw [if_pos rfl, hch]
          congr 3
          rw [hrw]
          have h1 : (R.drop (s.j.block * s.t.per)).length ≤ s.t.per := by rw [← h.rows]; exact hj.rows
          rw [List.take_of_length_le h1, ← h.rows, List.take_length]
        · rw [if_neg (by omega)]
          refine h.fin i hi hl (.inl ?_)
          have hc := h.cnt
          unfold Jo.cnt at hc
          have hr := hj.rows
          by_cases hlt : i < s.j.block
          · exact hlt
          · exfalso
            have h5 : (s.j.block + 1) * s.t.per ≤ i * s.t.per := Nat.mul_le_mul_right _ (by omega)
            rw [Nat.succ_mul] at h5
            omega
      ris := h.ris
      seq := h.seq
      fit := h.fit
      lim := hL
      sb := h.sb
      top := h.top }
/-- A record more, ahead of what is written. -/
theorem push_step {s : JS} {R : List Rec} {lo b : Nat} {r : Rec} (h : Ap s R lo b) (hj : s.j.Ok s.t) (ht : s.t.Ok) (hr : (1 ≤ r.kind ∧ r.kind ≤ 4) ∧ r.a < 18446744073709551616 ∧ r.b < 18446744073709551616 ∧ r.c < 18446744073709551616) (hs : s.j.seq + 1 < 1000000000000000000) (hd : s.j.rows.length = s.t.per → s.j.dirty = false ∨ False) :
    Ap ⟨s.j.push r s.t.per, s.t⟩ (R ++ [{ r with seq := s.j.seq + 1 }]) lo (b + 1) := by
  obtain ⟨n1, n2, n3, n4, n5, n6⟩ := next_same s.j s.t.per
  have hp := ht.per
  have hcn := next_cnt s.j s.t.per
  have hrows : (s.j.next s.t.per).rows = R.drop ((s.j.next s.t.per).block * s.t.per) ∧ (s.j.next s.t.per).block * s.t.per ≤ R.length := by
    have hc := h.cnt
    unfold Jo.cnt at hc
    unfold Jo.next
    split
    · rename_i hf
      refine ⟨?_, by show (s.j.block + 1) * s.t.per ≤ _; rw [Nat.succ_mul]; omega⟩
      show [] = R.drop ((s.j.block + 1) * s.t.per)
      rw [Nat.succ_mul, List.drop_eq_nil_of_le (by omega)]
    · exact ⟨h.rows, by omega⟩
  exact {
    ar := by
      show Ar s.t (s.j.next s.t.per).gen (s.j.next s.t.per).area _ lo
      rw [n2, n4]; exact h.ar.snoc
    cnt := by rw [List.length_append, List.length_singleton, h.cnt]; exact (push_cnt s.j r s.t.per).symm
    rows := by
      show (s.j.next s.t.per).rows ++ [_] = (R ++ [_]).drop ((s.j.next s.t.per).block * s.t.per)
      rw [List.drop_append_of_le_length hrows.2, ← hrows.1]
    lo := by rw [List.length_append]; have := h.lo; omega
    fin := fun i hi hl hb => by
      show chunkR (s.t.last (2 + (s.j.next s.t.per).area * s.t.sz + i)) = some ((s.j.next s.t.per).gen, i, ((R ++ [_]).drop (i * s.t.per)).take s.t.per)
      rw [n2, n4]
      rcases hb with hb | hb
      · have hb' : i < (s.j.next s.t.per).block := hb
        have h5 : (i + 1) * s.t.per ≤ (s.j.next s.t.per).block * s.t.per := Nat.mul_le_mul_right _ hb'
        rw [Nat.succ_mul] at h5
        have h6 := hrows.2
        rw [drop_take_app (by omega)]
        refine h.fin i hi (by omega) ?_
        by_cases hf : s.j.rows.length = s.t.per
        · rcases hd hf with hd | hd
          · exact .inr hd
          · exact hd.elim
        · left
          unfold Jo.next at hb'
          rw [if_neg hf] at hb'
          exact hb'
      · cases hb
    ris := by
      refine List.pairwise_append.2 ⟨h.ris, List.pairwise_singleton _ _, fun a ha b hb => ?_⟩
      rw [List.mem_singleton.1 hb]
      have := h.seq a ha
      show a.seq < s.j.seq + 1
      omega
    seq := fun q hq => by
      show q.seq ≤ s.j.seq + 1
      rcases List.mem_append.1 hq with hq | hq
      · have := h.seq q hq; omega
      · rw [List.mem_singleton.1 hq]; exact Nat.le_refl _
    fit := fun q hq => by
      rcases List.mem_append.1 hq with hq | hq
      · exact h.fit q hq
      · rw [List.mem_singleton.1 hq]
        refine ⟨hr.1, fun i => ?_⟩
        match i with
        | 0 => show s.j.seq + 1 < _; omega
        | 1 => exact hr.2.1
        | 2 => exact hr.2.2.1
        | _ + 3 => exact hr.2.2.2
    lim := by
      show Lim s.t (s.j.next s.t.per).top (b + 1)
      rw [n3]; exact h.lim.mono (Nat.le_refl _) (Nat.le_succ _)
    sb := by show s.j.seq + 1 ≤ b + 1; have := h.sb; omega
    top := by show (s.j.next s.t.per).gen = (s.j.next s.t.per).top; rw [n2, n3]; exact h.top }
/-- Rows that are full were written. -/
def Wr (s : JS) : Prop := s.j.rows.length = s.t.per → s.j.dirty = false ∨ False
theorem put_step {s : JS} {R : List Rec} {lo b : Nat} {r : Rec} (h : Ap s R lo b) (hj : s.j.Ok s.t) (ht : s.t.Ok) (hroom : s.j.rows.length = s.t.per → s.j.block + 1 < s.t.sz) (hr : (1 ≤ r.kind ∧ r.kind ≤ 4) ∧ r.a < 18446744073709551616 ∧ r.b < 18446744073709551616 ∧ r.c < 18446744073709551616) (hs : s.j.seq + 1 < 1000000000000000000) (hw : Wr s) (hbd : s.j.bad = 0) :
    Ar (s.put r).2.t s.j.gen s.j.area (R ++ [{ r with seq := s.j.seq + 1 }]) lo ∧ Lim (s.put r).2.t s.j.top (b + 1) ∧ Fr s (s.put r).2.t ∧ ((s.put r).1 = 0 → Ap (s.put r).2 (R ++ [{ r with seq := s.j.seq + 1 }]) lo (b + 1) ∧ Wr (s.put r).2) := by
  have hps := push_step h hj ht hr hs hw
  have hpo := push_ok hj ht hroom hr hs
  obtain ⟨n1, n2, n3, n4, n5, n6⟩ := next_same s.j s.t.per
  unfold JS.put
  split
  · rename_i hf
    -- the block that is full is written: as of a journal that is dirty
    obtain ⟨w1, w2, w3, w4⟩ := write_step (s := ⟨s.j.push r s.t.per, s.t⟩) hps hpo ht (.inr hf) (by show (s.j.next s.t.per).bad = 0; rw [n6]; exact hbd)
    have et : (JS.mk { (s.j.push r s.t.per) with dirty := false } s.t).write.2.t = (JS.mk (s.j.push r s.t.per) s.t).write.2.t := rfl
    have ee : (JS.mk { (s.j.push r s.t.per) with dirty := false } s.t).write.1 = (JS.mk (s.j.push r s.t.per) s.t).write.1 := rfl
    rw [et, ee]
    have e2 : (s.j.push r s.t.per).gen = s.j.gen := n2
    have e3 : (s.j.push r s.t.per).top = s.j.top := n3
    have e4 : (s.j.push r s.t.per).area = s.j.area := n4
    refine ⟨by have := w1; dsimp only at this; rwa [e2, e4] at this, by have := w2; dsimp only at this; rw [e3] at this; exact this, ?_, fun he => ?_⟩
    · obtain ⟨f1, f2, f3⟩ := w3
      exact ⟨f1, f2, fun k x hk hx => by have := f3 k x hk hx; dsimp only at this; rwa [e4] at this⟩
    · obtain ⟨k1, k2⟩ := w4 he
      have ej : (JS.mk { (s.j.push r s.t.per) with dirty := false } s.t).write.2.j = { (s.j.push r s.t.per) with dirty := false } := by
        show Jo.fail _ s.t.err = _
        have : s.t.err = 0 := he
        unfold Jo.fail; rw [if_pos this]
      have es : (JS.mk { (s.j.push r s.t.per) with dirty := false } s.t).write.2 = ⟨{ (s.j.push r s.t.per) with dirty := false }, (JS.mk (s.j.push r s.t.per) s.t).write.2.t⟩ := congrArg (fun j => JS.mk j (JS.mk (s.j.push r s.t.per) s.t).write.2.t) ej
      rw [es]
      exact ⟨k1, fun _ => .inl rfl⟩
  · rename_i hf
    refine ⟨?_, ?_, ⟨rfl, rfl, fun k x _ hx => .inl hx⟩, fun _ => ⟨hps, fun h => absurd h hf⟩⟩
    · have := hps.ar; dsimp only at this; rw [show (s.j.push r s.t.per).gen = s.j.gen from n2, show (s.j.push r s.t.per).area = s.j.area from n4] at this; exact this
    · have := hps.lim; dsimp only at this; rw [show (s.j.push r s.t.per).top = s.j.top from n3] at this; exact this
end Go.Proofs.Ytkdjefnnhanhhaa
/- A journal, plain: flush, checkpoint. -/
namespace Go.Proofs.Ytkdjefnnhanhhaa
open Go Go.RowKit Go.Mem Go.Jn
set_option linter.unusedVariables false

/-- Nothing was written since. -/
def Clean (t : Tp) : Prop := ∀ i, i < t.nb → t.since i = []
/-- Whatever is lost, what is opened is as P says. -/
def Snd (t : Tp) (P : MM → Prop) : Prop := ∀ c : Nat → List Nat, (∀ i, i < t.nb → Ver t i (c i)) → P (openF c t.nb t.size).m
theorem clean_ver {t : Tp} (h : Clean t) {i : Nat} (hi : i < t.nb) {x : List Nat} (hx : Ver t i x) : x = t.kept i := by
  rcases hx with hx | hx
  · exact hx
  · rw [h i hi] at hx; cases hx
theorem clean_last {t : Tp} (h : Clean t) {i : Nat} (hi : i < t.nb) : t.last i = t.kept i := last_nil (by rw [h i hi]; rfl)
theorem fail0 {j : Jo} {e : Int} (h : e = 0) : j.fail e = j := by unfold Jo.fail; rw [if_pos h]
theorem syn_step {s : JS} {R : List Rec} {lo b : Nat} (h : Ap s R lo b) (hj : s.j.Ok s.t) (ht : s.t.Ok) (hd : s.j.dirty = false) :
    Ar s.syn.2.t s.j.gen s.j.area R lo ∧ Lim s.syn.2.t s.j.top b ∧ Fr s s.syn.2.t ∧ (s.syn.1 = 0 → Ap s.syn.2 R R.length b ∧ Clean s.syn.2.t ∧ s.syn.2.j = s.j) := by
  have hA : Ar s.t.sync s.j.gen s.j.area R lo := h.ar.sync hj.area ht.n8
  have hL : Lim s.t.sync s.j.top b := h.lim.sync
  refine ⟨hA, hL, ⟨sync_nb _, sync_size _, fun k x hk hx => .inl (ver_sync hk hx)⟩, fun he => ?_⟩
  have he' : s.t.err = 0 := he
  have hej : s.syn.2.j = s.j := fail0 he'
  have hsz : s.t.sync.sz = s.t.sz := sz_of (sync_nb _)
  have hper : s.t.sync.per = s.t.per := per_of (sync_size _)
  have hes : s.syn.2 = ⟨s.j, s.t.sync⟩ := congrArg (fun j => JS.mk j s.t.sync) hej
  refine ⟨?_, fun i hi => (sync_ok he' (by have h : i < s.t.sync.nb := hi; rwa [sync_nb] at h)).2, hej⟩
  rw [hes]
  exact {
    ar := fun i hi x hx => by
      show (∃ v, v ≤ s.t.sync.per ∧ i * s.t.sync.per + v ≤ R.length ∧ chunkR x = some (s.j.gen, i, (R.drop (i * s.t.sync.per)).take v) ∧ (R.length ≤ i * s.t.sync.per + v ∨ v = s.t.sync.per)) ∨ (R.length ≤ i * s.t.sync.per ∧ ∀ l, chunkR x ≠ some (s.j.gen, i, l))
      have hi' : i < s.t.sz := by rw [← hsz]; exact hi
      have hidx := area_idx hj ht hi'
      have hx' : Ver s.t.sync (2 + s.j.area * s.t.sz + i) x := by have : Ver s.t.sync (2 + s.j.area * s.t.sync.sz + i) x := hx; rwa [hsz] at this
      rw [hper]
      have hk := sync_ok he' hidx
      have hxl : x = s.t.last (2 + s.j.area * s.t.sz + i) := by
        rcases hx' with hx' | hx'
        · rw [hx', hk.1]
        · rw [hk.2] at hx'; cases hx'
      by_cases hlt : i * s.t.per < R.length
      · have hf := h.fin i hi' hlt (.inr hd)
        left
        rw [hxl, hf]
        refine ⟨min s.t.per (R.length - i * s.t.per), Nat.min_le_left _ _, by omega, ?_, by omega⟩
        congr 3
        by_cases hm : s.t.per ≤ R.length - i * s.t.per
        · rw [Nat.min_eq_left hm]
        · rw [Nat.min_eq_right (by omega), List.take_of_length_le (by rw [List.length_drop]; omega), List.take_of_length_le (by rw [List.length_drop]; omega)]
      · rcases h.ar i hi' x (by rw [hxl]; exact last_ver _ _) with ⟨v, h1, h2, h3, h4⟩ | ⟨h1, h2⟩
        · exact .inl ⟨v, h1, h2, h3, .inl (by omega)⟩
        · exact .inr ⟨by omega, h2⟩
    cnt := by show R.length = Jo.cnt _ s.t.sync.per; rw [hper]; exact h.cnt
    rows := by show s.j.rows = R.drop (s.j.block * s.t.sync.per); rw [hper]; exact h.rows
    lo := Nat.le_refl _
    fin := fun i hi hl hb => by
      show chunkR (s.t.sync.last (2 + s.j.area * s.t.sync.sz + i)) = some (s.j.gen, i, (R.drop (i * s.t.sync.per)).take s.t.sync.per)
      have hi' : i < s.t.sz := by rw [← hsz]; exact hi
      rw [hsz, hper, sync_last he' (area_idx hj ht hi')]
      exact h.fin i hi' (by rw [← hper]; exact hl) hb
    ris := h.ris
    seq := h.seq
    fit := h.fit
    lim := hL
    sb := h.sb
    top := h.top }
theorem Fr.trans {s s1 : JS} {t2 : Tp} (h : Fr s s1.t) (k : Fr s1 t2) (ha : s1.j.area = s.j.area) : Fr s t2 := by
  obtain ⟨h1, h2, h3⟩ := h
  obtain ⟨k1, k2, k3⟩ := k
  refine ⟨k1.trans h1, k2.trans h2, fun i x hi hx => ?_⟩
  rcases k3 i x (by rw [h1]; exact hi) hx with hx | ⟨m, hm, he⟩
  · exact h3 i x hi hx
  · rw [sz_of h1] at hm he
    rw [ha] at he
    exact .inr ⟨m, hm, he⟩
theorem flush_step {s : JS} {R : List Rec} {lo b : Nat} (h : Ap s R lo b) (hj : s.j.Ok s.t) (ht : s.t.Ok) (hbd : s.j.bad = 0) :
    Ar s.flush.2.t s.j.gen s.j.area R lo ∧ Lim s.flush.2.t s.j.top b ∧ Fr s s.flush.2.t ∧ (s.flush.1 = 0 → Ap s.flush.2 R R.length b ∧ Clean s.flush.2.t ∧ s.flush.2.j.dirty = false) := by
  unfold JS.flush
  split
  · have hlo : lo ≤ s.j.block * s.t.per + s.j.rows.length ∨ s.j.rows.length = s.t.per := by
      have := h.cnt; unfold Jo.cnt at this; have := h.lo; exact .inl (by omega)
    obtain ⟨w1, w2, w3, w4⟩ := write_step h hj ht hlo hbd
    split
    · rename_i he
      obtain ⟨k1, k2⟩ := w4 he
      have hT : s.write.2.t.Ok := ht.of (write_nb _ _ _) (write_size _ _ _)
      have ej : (JS.mk { s.write.2.j with dirty := false } s.write.2.t) = ⟨{ s.j with dirty := false }, s.write.2.t⟩ := by rw [k2]
      rw [ej]
      have hok : ({ s.j with dirty := false } : Jo).Ok s.write.2.t := by
        have := fail_ok (e := 0) (hj.dirty false) (t' := s.write.2.t) (write_nb _ _ _) (write_size _ _ _) (.inl rfl)
        rwa [fail0 rfl] at this
      obtain ⟨y1, y2, y3, y4⟩ := syn_step k1 hok hT rfl
      refine ⟨y1, y2, Fr.trans (s1 := ⟨{ s.j with dirty := false }, s.write.2.t⟩) w3 y3 rfl, fun he2 => ?_⟩
      obtain ⟨z1, z2, z3⟩ := y4 he2
      exact ⟨z1, z2, by rw [z3]⟩
    · rename_i he
      exact ⟨w1, w2, w3, fun h0 => absurd h0 he⟩
  · rename_i hd
    have hd' : s.j.dirty = false := by cases hdd : s.j.dirty; rfl; exact absurd hdd hd
    obtain ⟨y1, y2, y3, y4⟩ := syn_step h hj ht hd'
    refine ⟨y1, y2, y3, fun he2 => ?_⟩
    obtain ⟨z1, z2, z3⟩ := y4 he2
    exact ⟨z1, z2, by rw [z3]; exact hd'⟩
/-! ### A checkpoint -/
def foldP (M : MM) (l : MM) : MM := l.foldl (fun M p => putM p.1 p.2 M) M
theorem insM_end {q : Nat × Nat} : ∀ {M : MM}, (∀ p ∈ M, p.1 < q.1) → insM q M = M ++ [q]
  | [], _ => rfl
  | x :: M, h => by
    unfold insM
    rw [if_neg (by have := h x (by simp); omega), insM_end (fun p hp => h p (by simp [hp]))]; rfl
theorem delM_none {k : Nat} {M : MM} (h : ∀ p ∈ M, p.1 ≠ k) : delM k M = M := by
  unfold delM
  exact List.filter_eq_self.2 (fun p hp => by simpa using h p hp)
theorem foldP_ris : ∀ (l M : MM), RisM (M ++ l) → foldP M l = M ++ l
  | [], M, _ => by simp [foldP]
  | p :: l, M, h => by
    have h1 : ∀ q ∈ M, q.1 < p.1 := fun q hq => (List.pairwise_append.1 h).2.2 q hq p (by simp)
    have e : putM p.1 p.2 M = M ++ [p] := by
      unfold putM
      rw [delM_none (fun q hq => by have := h1 q hq; omega), insM_end h1]
    show foldP (putM p.1 p.2 M) l = _
    rw [e, foldP_ris l (M ++ [p]) (by simpa using h)]
    simp
theorem puts_step : ∀ (l : MM) (s : JS) (R : List Rec) (lo b : Nat), Ap s R lo b → Wr s → s.j.Ok s.t → s.t.Ok → s.j.bad = 0 → s.j.cnt s.t.per + l.length ≤ s.t.sz * s.t.per → s.j.seq + l.length < 1000000000000000000 → (∀ p ∈ l, p.1 < 18446744073709551616 ∧ p.2 < 18446744073709551616) →
    Lim (s.puts l).2.t s.j.top (b + l.length) ∧ Fr s (s.puts l).2.t ∧ ((s.puts l).1 = 0 ∨ (s.puts l).1 = 40) ∧ ((s.puts l).1 = 0 → ∃ R', Ap (s.puts l).2 (R ++ R') lo (b + l.length) ∧ mapR (R ++ R') = foldP (mapR R) l ∧ (s.puts l).2.j.Ok (s.puts l).2.t ∧ (s.puts l).2.j.bad = 0 ∧ (s.puts l).2.j.gen = s.j.gen ∧ (s.puts l).2.j.area = s.j.area ∧ (s.puts l).2.j.top = s.j.top ∧ (s.puts l).2.j.late = s.j.late ∧ (s.puts l).2.j.m = s.j.m)
  | [], s, R, lo, b, h, hw, hj, ht, hb, hc, hs, hf => ⟨h.lim, ⟨rfl, rfl, fun k x _ hx => .inl hx⟩, .inl rfl, fun _ => ⟨[], by rw [List.append_nil]; exact h, by rw [List.append_nil]; rfl, hj, hb, rfl, rfl, rfl, rfl, rfl⟩⟩
  | p :: l, s, R, lo, b, h, hw, hj, ht, hb, hc, hs, hf => by
    have hpf := hf p (by simp)
    rw [List.length_cons] at hc hs
    have hp := ht.per
    have hroom : s.j.rows.length = s.t.per → s.j.block + 1 < s.t.sz := fun he => by
      unfold Jo.cnt at hc
      rw [he] at hc
      have h2 : (s.j.block + 1) * s.t.per < s.t.sz * s.t.per := by rw [Nat.succ_mul]; omega
      exact Nat.lt_of_mul_lt_mul_right h2
    have hr : (1 ≤ (setR p).kind ∧ (setR p).kind ≤ 4) ∧ (setR p).a < 18446744073709551616 ∧ (setR p).b < 18446744073709551616 ∧ (setR p).c < 18446744073709551616 := ⟨⟨by show 1 ≤ 1; omega, by show 1 ≤ 4; omega⟩, hpf.1, hpf.2, by show 0 < _; omega⟩
    obtain ⟨p1, p2, p3, p4⟩ := put_step h hj ht hroom hr (by omega) hw hb
    have hP := put_put (r := setR p) hj ht hroom hr (by omega)
    unfold JS.puts
    by_cases he : (s.put (setR p)).1 = 0
    · rw [if_pos he]
      obtain ⟨k1, k2⟩ := p4 he
      have hT : (s.put (setR p)).2.t.Ok := ht.of hP.nb hP.size
      have hsz : (s.put (setR p)).2.t.sz = s.t.sz := sz_of hP.nb
      have hper : (s.put (setR p)).2.t.per = s.t.per := per_of hP.size
      obtain ⟨q1, q2, q3, q4⟩ := puts_step l (s.put (setR p)).2 _ lo (b + 1) k1 k2 hP.ok hT (by rw [hP.bad, if_pos he]; exact hb) (by rw [hsz, hper, hP.cnt]; omega) (by rw [hP.seq]; omega) (fun q hq => hf q (by simp [hq]))
      refine ⟨by rw [hP.top] at q1; rw [List.length_cons]; exact q1.mono (Nat.le_refl _) (by omega), Fr.trans p3 q2 hP.area, q3, fun he2 => ?_⟩
      obtain ⟨R', r1, r2, r3, r4, r5, r6, r7, r8, r9⟩ := q4 he2
      refine ⟨[{ setR p with seq := s.j.seq + 1 }] ++ R', by rw [← List.append_assoc, List.length_cons, show b + (l.length + 1) = b + 1 + l.length by omega]; exact r1, ?_, r3, r4, r5.trans hP.gen, r6.trans hP.area, r7.trans hP.top, r8.trans hP.late, r9.trans hP.m⟩
      rw [← List.append_assoc, r2]
      show foldP (mapR (R ++ [_])) l = foldP (putM p.1 p.2 (mapR R)) l
      have e9 := mapF_app [] R [{ setR p with seq := s.j.seq + 1 }]
      exact congrArg (fun M => foldP M l) e9
    · rw [if_neg he]
      refine ⟨by rw [List.length_cons]; exact p2.mono (Nat.le_refl _) (by omega), p3, hP.err, fun h0 => absurd h0 he⟩
end Go.Proofs.Ytkdjefnnhanhhaa
