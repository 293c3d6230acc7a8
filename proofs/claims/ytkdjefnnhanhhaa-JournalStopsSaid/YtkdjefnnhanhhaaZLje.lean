/- A journal, plain: a checkpoint, whole. -/
import Derived.Test.YtkdjefnnhanhhaaUo
set_option linter.unusedVariables false
namespace Go.Proofs.Ytkdjefnnhanhhaa
open Go Go.RowKit Go.Mem Go.Jn
set_option linter.unusedVariables false

theorem root_new {c : Nat → List Nat} {g a T : Nat} (hg : T < g) (hn : rootR (c (g % 2)) = some (g, a)) (ho : ∀ i, i < 2 → i ≠ g % 2 → ∀ g' a', rootR (c i) = some (g', a') → g' ≤ T) : rtI c 2 = (g, a) := by
  show rt1 (rt1 (0, 0) (c 0)) (c 1) = (g, a)
  rcases Nat.mod_two_eq_zero_or_one g with h | h
  · rw [h] at hn ho
    have e : rt1 (0, 0) (c 0) = (g, a) := by unfold rt1; rw [hn]; show (if 0 ≤ g then (g, a) else (0, 0)) = _; rw [if_pos (Nat.zero_le _)]
    rw [e]
    unfold rt1
    split
    · rename_i g' a' hr
      have := ho 1 (by omega) (by omega) g' a' hr
      show (if g ≤ g' then (g', a') else (g, a)) = _
      rw [if_neg (by omega)]
    · rfl
  · rw [h] at hn ho
    have e : (rt1 (0, 0) (c 0)).1 ≤ T := by
      unfold rt1
      split
      · rename_i g' a' hr
        show (if 0 ≤ g' then (g', a') else (0, 0)).1 ≤ T
        rw [if_pos (Nat.zero_le _)]
        exact ho 0 (by omega) (by omega) g' a' hr
      · exact Nat.zero_le _
    generalize rt1 (0, 0) (c 0) = q at e ⊢
    unfold rt1
    rw [hn]
    show (if q.1 ≤ g then (g, a) else q) = _
    rw [if_pos (by omega)]
theorem Snd.imp {t : Tp} {P P' : MM → Prop} (h : Snd t P) (hP : ∀ m, P m → P' m) : Snd t P' := fun c hc => hP _ (h c hc)
theorem Snd.sync {t : Tp} {P : MM → Prop} (h : Snd t P) : Snd t.sync P := fun c hc => by
  rw [sync_nb, sync_size]
  rw [sync_nb] at hc
  exact h c (fun i hi => ver_sync hi (hc i hi))
theorem area_ne {a a' sz i k : Nat} (h : 2 + a * sz + i = 2 + a' * sz + k) (hi : i < sz) (hk : k < sz) : a = a' := by
  have h1 : a * sz + i = a' * sz + k := by omega
  have h2 : (a * sz + i) / sz = a := by rw [Nat.mul_comm, Nat.mul_add_div (by omega), Nat.div_eq_of_lt hi]; rfl
  have h3 : (a' * sz + k) / sz = a' := by rw [Nat.mul_comm, Nat.mul_add_div (by omega), Nat.div_eq_of_lt hk]; rfl
  rw [← h2, h1, h3]
/-- What is opened by the other area stays. -/
theorem Fr.old {s : JS} {t' : Tp} {a : Nat} {P : MM → Prop} (h : Fr s t') (hO : Old s.t a P) (ha : a ≠ s.j.area) (hal : a ≤ 1) (hn : 8 ≤ s.t.nb) : Old t' a P := by
  obtain ⟨h1, h2, h3⟩ := h
  refine hO.frame h1 h2 (fun i x hi hx => ?_)
  have hsz : s.t.sz = (s.t.nb - 2) / 2 := rfl
  have h4 : a * s.t.sz ≤ 1 * s.t.sz := Nat.mul_le_mul_right _ hal
  have hin : i < s.t.nb := by rcases hi with hi | ⟨k, hk, hi⟩ <;> omega
  rcases h3 i x hin hx with hx | ⟨m, hm, he⟩
  · exact hx
  · exfalso
    rcases hi with hi | ⟨k, hk, hi⟩
    · omega
    · exact ha (area_ne (by rw [← hi, he]) hk hm)
theorem Fr.root {s : JS} {t' : Tp} {g a : Nat} (h : Fr s t') (hr : RootIs s.t g a) (hn : 8 ≤ s.t.nb) : RootIs t' g a := fun c hc => hr c (fun i hi => by
  rcases h.2.2 i _ (by omega) (hc i hi) with hx | ⟨m, hm, he⟩
  · exact hx
  · omega)
/-- A journal that has one generation on its tape. -/
structure Lv (s : JS) (R : List Rec) (lo b : Nat) : Prop where
  ap : Ap s R lo b
  root : RootIs s.t s.j.gen s.j.area
  map : mapR R = s.j.m
  late : s.j.late = false
  g1 : 1 ≤ s.j.gen
  wr : Wr s
theorem check_step {s : JS} {P : MM → Prop} {b : Nat} (hj : s.j.Ok s.t) (ht : s.t.Ok) (hbd : s.j.bad = 0) (hL : Lim s.t s.j.top b) (hsb : s.j.seq ≤ b) (hO : Old s.t s.j.area P) (hs : s.j.seq + s.j.m.length < 1000000000000000000) (htop : s.j.top + 1 < 1000000000000000000) (hm : s.j.m.length ≤ s.t.sz * s.t.per) :
    Lim s.checkpoint.2.t (s.j.top + 1) (b + s.j.m.length) ∧ (s.checkpoint.2.t.nb = s.t.nb ∧ s.checkpoint.2.t.size = s.t.size) ∧ (s.checkpoint.1 = 0 ∨ s.checkpoint.1 = 40) ∧ (s.checkpoint.1 ≠ 0 → Snd s.checkpoint.2.t (fun m => P m ∨ m = s.j.m)) ∧
      (s.checkpoint.1 = 0 → ∃ R, Lv s.checkpoint.2 R R.length (b + s.j.m.length) ∧ Clean s.checkpoint.2.t ∧ s.checkpoint.2.j.m = s.j.m ∧ s.checkpoint.2.j.bad = 0 ∧ s.checkpoint.2.j.Ok s.checkpoint.2.t) := by
  obtain ⟨j, t⟩ := s
  dsimp only at hj ht hbd hL hsb hO hs htop hm
  have ha1 : 1 - j.area ≤ 1 := by omega
  have hane : j.area ≠ 1 - j.area := by have := hj.area; omega
  have hok0 := start_ok hj ht htop
  have hA0 : Ap ⟨j.start, t⟩ [] 0 b := {
    ar := fun i hi x hx => .inr ⟨Nat.zero_le _, fun l e => by
      have hidx := area_idx hok0 ht hi
      have := ((hL _ hidx x hx).2.2 (by omega) _ _ _ e).1
      have hg : j.start.gen = j.top + 1 := rfl
      dsimp only at this
      omega⟩
    cnt := by show 0 = 0 * _ + 0; omega
    rows := by show [] = List.drop _ []; rw [List.drop_nil]
    lo := Nat.le_refl _
    fin := fun i hi hl _ => by simp at hl
    ris := List.Pairwise.nil
    seq := fun r hr => (by cases hr)
    fit := fun r hr => (by cases hr)
    lim := hL.mono (Nat.le_succ _) (Nat.le_refl _)
    sb := hsb
    top := rfl }
  have hw0 : Wr ⟨j.start, t⟩ := fun h => by have := ht.per; have : 0 = t.per := h; omega
  obtain ⟨p1, p2, p3, p4⟩ := puts_step j.m ⟨j.start, t⟩ [] 0 b hA0 hw0 hok0 ht hbd (by show 0 * _ + 0 + _ ≤ _; simpa using hm) hs hj.fit.2
  obtain ⟨R1, hR1⟩ : ∃ R1, (JS.mk j.start t).puts j.m = R1 := ⟨_, rfl⟩
  obtain ⟨e1, s1⟩ := R1
  rw [hR1] at p1 p2 p3 p4
  dsimp only at p1 p2 p3 p4
  by_cases he1 : e1 = 0
  · subst he1
    obtain ⟨R, r1, r2, r3, r4, r5, r6, r7, r8, r9⟩ := p4 rfl
    rw [List.nil_append] at r1 r2
    have r2 : mapR R = j.m := r2.trans ((foldP_ris j.m [] (by simpa using hj.fit.1)).trans (List.nil_append _))
    have hT1 : s1.t.Ok := ht.of p2.1 p2.2.1
    obtain ⟨f1, f2, f3, f4⟩ := flush_step r1 r3 hT1 r4
    have hK := flush_kept s1
    have hF2 : Fr ⟨j.start, t⟩ s1.flush.2.t := Fr.trans p2 f3 r6
    have hO2 : Old s1.flush.2.t j.area P := hF2.old hO hane hj.area ht.n8
    obtain ⟨R2, hR2⟩ : ∃ R2, s1.flush = R2 := ⟨_, rfl⟩
    obtain ⟨e2, s2⟩ := R2
    rw [hR2] at f1 f2 f4 hK hF2 hO2
    dsimp only at f1 f2 f4 hK hF2 hO2
    have hnb2 : s2.t.nb = t.nb := hF2.1
    have hsz2 : s2.t.size = t.size := hF2.2.1
    have hT2 : s2.t.Ok := ht.of hnb2 hsz2
    have htop1 : s1.j.top = j.top + 1 := r7
    rw [htop1] at f2
    have hL2 : Lim s2.t (j.top + 1) (b + j.m.length) := f2
    by_cases he2 : e2 = 0
    · subst he2
      obtain ⟨k1, k2, k3⟩ := f4 rfl
      have hg2 : s2.j.gen = j.top + 1 := hK.gen.trans (r5.trans rfl)
      have ha2 : s2.j.area = 1 - j.area := hK.area.trans (r6.trans rfl)
      have hm2 : s2.j.m = j.m := hK.m.trans (r9.trans rfl)
      have hok2 : s2.j.Ok s2.t := hK.ok r3
      -- the root
      have hroot : rootR (rootB s2.t.size s2.j.gen s2.j.area) = some (j.top + 1, 1 - j.area) := by rw [root_block (by rw [hg2]; omega) hok2.area (by have := hT2.s128; omega), hg2, ha2]
      obtain ⟨x, hx⟩ : ∃ x, rootB s2.t.size s2.j.gen s2.j.area = x := ⟨_, rfl⟩
      rw [hx] at hroot
      have hxb : BytesN s2.t.size x := by rw [← hx]; exact rootB_ok (by have := hT2.s128; omega)
      have hg0 : s2.j.gen % 2 < 2 := Nat.mod_lt _ (by decide)
      obtain ⟨t3, ht3⟩ : ∃ t3, s2.t.write (s2.j.gen % 2) x = t3 := ⟨_, rfl⟩
      have hnb3 : t3.nb = s2.t.nb := by rw [← ht3]; exact write_nb _ _ _
      have hsz3 : t3.size = s2.t.size := by rw [← ht3]; exact write_size _ _ _
      have hL3 : Lim t3 (j.top + 1) (b + j.m.length) := by
        rw [← ht3]
        exact hL2.write ⟨hxb, fun _ g a e => by rw [hroot] at e; cases e; exact Nat.le_refl _, fun h => by omega⟩
      have hv3 : ∀ k y, Ver t3 k y → Ver s2.t k y ∨ (k = s2.j.gen % 2 ∧ y = x) := fun k y hy => by rw [← ht3] at hy; exact ver_write hy
      have hrlim : ∀ k y, k < 2 → Ver s2.t k y → ∀ g a, rootR y = some (g, a) → g ≤ j.top := fun k y hk hy g a e => by
        have h0 : Ver t k y := by
          rcases hF2.2.2 k y (by have := ht.n8; dsimp only; omega) hy with h | ⟨m, _, h⟩
          · exact h
          · omega
        exact (hL k (by have := ht.n8; omega) y h0).2.1 hk g a e
      have hA3 : Ar t3 (j.top + 1) (1 - j.area) R R.length := fun i hi y hy => by
        have hszz : t3.sz = s2.t.sz := sz_of hnb3
        have hperr : t3.per = s2.t.per := per_of hsz3
        rw [hszz] at hi hy
        rw [hperr]
        rcases hv3 _ y hy with hy | ⟨h, _⟩
        · have := k1.ar i hi y (by rw [ha2]; exact hy)
          rwa [hg2] at this
        · omega
      have hle : R.length ≤ s2.t.sz * s2.t.per := k1.le hok2
      have hRlen : R.length ≤ t3.sz * t3.per := by rw [sz_of hnb3, per_of hsz3]; exact hle
      have hS3 : Snd t3 (fun m => P m ∨ m = j.m) := fun c hc => by
        have hc2 : ∀ i, i < 2 → Ver t3 i (c i) := fun i hi => hc i (by have := hT2.n8; omega)
        by_cases hnew : Ver s2.t (s2.j.gen % 2) (c (s2.j.gen % 2))
        · left
          have hold := old_ver (c := c) hO2 hj.area hT2.n8 (fun i hi => by
            rcases hv3 i _ (hc i (by omega)) with h | ⟨h, h'⟩
            · exact h
            · rw [h] at h' ⊢; exact hnew)
          rw [hnb3, hsz3]; exact hold
        · right
          have hcx : c (s2.j.gen % 2) = x := by
            rcases hv3 _ _ (hc2 _ hg0) with h | ⟨_, h⟩
            · exact absurd h hnew
            · exact h
          have hrt : rtI c 2 = (j.top + 1, 1 - j.area) := by
            refine root_new (T := j.top) (by omega) (by rw [← hg2, hcx, hroot, hg2]) (fun i hi hne g' a' e => ?_)
            rw [← hg2] at hne
            rcases hv3 i _ (hc2 i hi) with h | ⟨h, _⟩
            · exact hrlim i _ hi h g' a' e
            · exact absurd h hne
          rw [open_m hrt, if_neg (by omega)]
          obtain ⟨n, n1, n2, n3⟩ := replay_m hA3 (Nat.le_refl _) hRlen (c := c) (fun i hi => hc _ (by
            rw [hnb3]
            have := area_idx hok2 hT2 (i := i) (by rwa [sz_of hnb3] at hi)
            rw [ha2] at this
            rwa [sz_of hnb3])) t3.sz 0 (openH c t3.nb) (by omega) (by rw [Nat.zero_mul]; omega) (by rw [Nat.zero_mul]; rfl)
          rw [n3, List.take_of_length_le (by omega), r2]
      have hcm : mapR R = j.m := r2
      obtain ⟨R3, hR3⟩ : ∃ R3, s2.root = R3 := ⟨_, rfl⟩
      obtain ⟨e3, s3⟩ := R3
      have hE3 : e3 = s2.t.err ∧ s3 = ⟨s2.j.fail s2.t.err, t3⟩ := by
        have h1 : s2.root = (s2.t.err, ⟨s2.j.fail s2.t.err, s2.t.write (s2.j.gen % 2) (rootB s2.t.size s2.j.gen s2.j.area)⟩) := rfl
        rw [hx, ht3, hR3] at h1
        cases h1; exact ⟨rfl, rfl⟩
      obtain ⟨hE3, hS⟩ := hE3
      subst hS
      by_cases he3 : e3 = 0
      · have he3' : s2.t.err = 0 := hE3 ▸ he3
        rw [fail0 he3'] at hR3
        subst he3
        have hC := check_d (s := ⟨j, t⟩) hR1 hR2 hR3
        rw [hC]
        have e4 : (JS.mk s2.j t3).syn = (t3.err, ⟨s2.j.fail t3.err, t3.sync⟩) := rfl
        rw [e4]
        refine ⟨hL3.sync, ⟨by show t3.sync.nb = _; rw [sync_nb, hnb3, hnb2], by show t3.sync.size = _; rw [sync_size, hsz3, hsz2]⟩, err_cases _, fun _ => hS3.sync, fun h0 => ?_⟩
        have h0' : t3.err = 0 := h0
        rw [fail0 h0']
        have hlast : ∀ k, t3.last k = if k = s2.j.gen % 2 then x else s2.t.last k := fun k => by rw [← ht3]; exact write_last he3' k
        have hkk : ∀ k, k < t3.nb → ∀ y, Ver t3.sync k y → y = t3.last k := fun k hk y hy => by
          obtain ⟨q1, q2⟩ := sync_ok h0' hk
          rcases hy with hy | hy
          · rw [hy, q1]
          · rw [q2] at hy; cases hy
        have hszs : t3.sync.sz = s2.t.sz := (sz_of (sync_nb _)).trans (sz_of hnb3)
        have hpers : t3.sync.per = s2.t.per := (per_of (sync_size _)).trans (per_of hsz3)
        refine ⟨R, ⟨?_, ?_, ?_, ?_, ?_, ?_⟩, fun i hi => (sync_ok h0' (by have : i < t3.sync.nb := hi; rwa [sync_nb] at this)).2, hm2, ?_, ?_⟩
        · exact {
            ar := by
              have h1 := hA3.sync ha1 (by rw [hnb3]; exact hT2.n8)
              show Ar t3.sync s2.j.gen s2.j.area R R.length
              rw [hg2, ha2]; exact h1
            cnt := by show R.length = Jo.cnt _ t3.sync.per; rw [hpers]; exact k1.cnt
            rows := by show s2.j.rows = R.drop (s2.j.block * t3.sync.per); rw [hpers]; exact k1.rows
            lo := Nat.le_refl _
            fin := fun i hi hl hbk => by
              show chunkR (t3.sync.last (2 + s2.j.area * t3.sync.sz + i)) = some (s2.j.gen, i, (R.drop (i * t3.sync.per)).take t3.sync.per)
              have hi' : i < s2.t.sz := by rw [← hszs]; exact hi
              have hidx := area_idx hok2 hT2 hi'
              rw [hszs, hpers, sync_last h0' (by rw [hnb3]; exact hidx), hlast, if_neg (by omega)]
              exact k1.fin i hi' (by rw [← hpers]; exact hl) hbk
            ris := k1.ris
            seq := k1.seq
            fit := k1.fit
            lim := by
              show Lim t3.sync s2.j.top (b + j.m.length)
              have hLk : Lim s2.t s2.j.top (b + j.m.length) := k1.lim
              have hLk3 : Lim t3 s2.j.top (b + j.m.length) := by
                rw [← ht3]
                exact hLk.write ⟨hxb, fun _ g a e => by rw [hroot] at e; cases e; rw [← k1.top, hg2]; exact Nat.le_refl _, fun h => by omega⟩
              exact hLk3.sync
            sb := k1.sb
            top := k1.top }
        · intro c hc
          show rtI c 2 = (s2.j.gen, s2.j.area)
          rw [hg2, ha2]
          have hc' : ∀ i, i < 2 → c i = t3.last i := fun i hi => hkk i (by rw [hnb3]; have := hT2.n8; omega) _ (hc i hi)
          refine root_new (T := j.top) (by omega) (by rw [← hg2, hc' _ hg0, hlast, if_pos rfl, hroot, hg2]) (fun i hi hne g' a' e => ?_)
          rw [← hg2] at hne
          rw [hc' i hi, hlast, if_neg hne] at e
          exact hrlim i _ hi (last_ver _ _) g' a' e
        · show mapR R = s2.j.m; rw [hm2]; exact hcm
        · show s2.j.late = false; rw [hK.late, r8]; rfl
        · show 1 ≤ s2.j.gen; rw [hg2]; omega
        · intro _; exact .inl k3
        · show s2.j.bad = 0; rw [hK.bad, if_pos rfl]; exact r4
        · have := fail_ok (e := 0) hok2 (t' := t3.sync) (by rw [sync_nb, hnb3]) (by rw [sync_size, hsz3]) (.inl rfl)
          rwa [fail0 rfl] at this
      · have hC := check_c (s := ⟨j, t⟩) hR1 hR2 hR3 he3
        rw [hC]
        exact ⟨hL3, ⟨hnb3.trans hnb2, hsz3.trans hsz2⟩, by rw [hE3]; exact err_cases _, fun _ => hS3, fun h => absurd h he3⟩
    · have hC := check_b (s := ⟨j, t⟩) hR1 hR2 he2
      rw [hC]
      exact ⟨hL2, ⟨hnb2, hsz2⟩, hK.err, fun _ c hc => .inl (old_ver hO2 hj.area hT2.n8 hc), fun h => absurd h he2⟩
  · have hC := check_a (s := ⟨j, t⟩) hR1 he1
    rw [hC]
    have hO1 : Old s1.t j.area P := p2.old hO hane hj.area ht.n8
    have hT1 : s1.t.Ok := ht.of p2.1 p2.2.1
    exact ⟨p1, ⟨p2.1, p2.2.1⟩, p3, fun _ c hc => .inl (old_ver hO1 hj.area hT1.n8 hc), fun h => absurd h he1⟩
end Go.Proofs.Ytkdjefnnhanhhaa
