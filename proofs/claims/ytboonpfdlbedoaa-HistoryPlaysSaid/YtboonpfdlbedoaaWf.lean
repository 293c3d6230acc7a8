/- Two models side by side: the program's and the document's. -/
import Derived.Test.YtboonpfdlbedoaaWe
namespace Go.Proofs.Ytboonpfdlbedoaa.Qv
open Go Go.RowKit Go.Mem Go.Hs Go.Proofs Go.Proofs.Ytboonpfdlbedoaa
set_option linter.unusedVariables false

/-- The program's model at p, the document's at q: no block is both's; all of them in X. -/
def Joint (X : Nat → Prop) (w : World) (p q n K : Nat) (Vm Rm Vr Rr : Nat → List Nat) : Prop :=
  ∃ gl cap bv br gv cv gr cr vv rr, MdAt X w p n K gl cap bv br Vm Rm ∧ RfAt X w q n gv cv gr cr vv rr Vr Rr ∧ ∀ j, MdB p n gl bv br j → RfB q n gv gr vv rr j → False
section
variable {X X' : Nat → Prop} {w w' : World} {p q n K K' i v : Nat} {Vm Rm Vr Rr Vm' Rm' Vr' Rr' V R : Nat → List Nat} {f : FuncId} {args : Array Value} {ret : Value}
theorem Joint.up (h : Joint X w p q n K Vm Rm Vr Rr) : ∀ j, w.heap.size ≤ j → X j := by
  obtain ⟨gl, cap, bv, br, gv, cv, gr, cr, vv, rr, h1, h2, h3⟩ := h
  exact h1.up
theorem Joint.imp (h : Joint X w p q n K Vm Rm Vr Rr) (hb : Below w.heap.size w w') (hX : ∀ j, j < w.heap.size → X j → X' j) (up : ∀ j, w'.heap.size ≤ j → X' j) : Joint X' w' p q n K Vm Rm Vr Rr := by
  obtain ⟨gl, cap, bv, br, gv, cv, gr, cr, vv, rr, h1, h2, h3⟩ := h
  exact ⟨gl, cap, bv, br, gv, cv, gr, cr, vv, rr, h1.conv (fun j hj => hb.block j (h1.mdB hj).2) (fun j hj => hX j (h1.mdB hj).2 (h1.mdB hj).1) up, h2.conv (fun j hj => hb.block j (h2.rfB hj).2) (fun j hj => hX j (h2.rfB hj).2 (h2.rfB hj).1) up, h3⟩
theorem Joint.below (h : Joint X w p q n K Vm Rm Vr Rr) (hb : Below w.heap.size w w') : Joint X w' p q n K Vm Rm Vr Rr :=
  h.imp hb (fun _ _ h => h) (fun j hj => h.up j (Nat.le_trans hb.size hj))
theorem Joint.more (h : Joint X w p q n K Vm Rm Vr Rr) (hK : K ≤ K') : Joint X w p q n K' Vm Rm Vr Rr := by
  obtain ⟨gl, cap, bv, br, gv, cv, gr, cr, vv, rr, h1, h2, h3⟩ := h
  exact ⟨gl, cap, bv, br, gv, cv, gr, cr, vv, rr, h1.more hK, h2, h3⟩
theorem Joint.sets (h : Joint X w p q n K Vm Rm Vr Rr) (hi : i < n) : (Rising (Vm i) ∧ (Vm i).length ≤ K) ∧ Rising (Rm i) ∧ (Rm i).length ≤ K := by
  obtain ⟨gl, cap, bv, br, gv, cv, gr, cr, vv, rr, h1, h2, h3⟩ := h
  exact ⟨⟨(h1.sv i hi).2.1, h1.lv i hi⟩, (h1.sr i hi).2.1, h1.lr i hi⟩
/-- A call of the program's model. -/
theorem Joint.m (h : Joint X w p q n K Vm Rm Vr Rr) (op : ∀ Q gl cap bv br, MdAt Q w p n K gl cap bv br Vm Rm → Calls Try.prog f args w fun e w' => e = .returned ret ∧ (∃ gl' cap' bv' br', MdAt Q w' p n K' gl' cap' bv' br' Vm' Rm') ∧ Off Q w w') :
    Calls Try.prog f args w fun e w' => e = .returned ret ∧ Joint X w' p q n K' Vm' Rm' Vr Rr ∧ Off X w w' := by
  obtain ⟨gl, cap, bv, br, gv, cv, gr, cr, vv, rr, h1, h2, h3⟩ := h
  have h4 : MdAt (fun j => X j ∧ ¬ RfB q n gv gr vv rr j) w p n K gl cap bv br Vm Rm := h1.conv (fun _ _ => rfl) (fun j hj => ⟨(h1.mdB hj).1, fun hr => h3 j hj hr⟩) (fun j hj => ⟨h1.up j hj, fun hr => by have := (h2.rfB hr).2; omega⟩)
  refine (op _ _ _ _ _ h4).mono ?_
  rintro e w' ⟨he, ⟨gl', cap', bv', br', hm⟩, ho⟩
  refine ⟨he, ⟨gl', cap', bv', br', gv, cv, gr, cr, vv, rr, hm.conv (fun _ _ => rfl) (fun j hj => (hm.mdB hj).1.1) (fun j hj => (hm.up j hj).1), h2.conv (fun j hj => ho.block j (h2.rfB hj).2 (fun hq => hq.2 hj)) (fun j hj => (h2.rfB hj).1) (fun j hj => h2.up j (Nat.le_trans ho.size hj)), fun j hj hr => (hm.mdB hj).1.2 hr⟩, ho.imp (fun j _ hj => hj.1)⟩
/-- A call of the document's model. -/
theorem Joint.r (h : Joint X w p q n K Vm Rm Vr Rr) (op : ∀ Q gv cv gr cr vv rr, RfAt Q w q n gv cv gr cr vv rr Vr Rr → Calls Try.prog f args w fun e w' => e = .returned ret ∧ (∃ gv' cv' gr' cr' vv' rr', RfAt Q w' q n gv' cv' gr' cr' vv' rr' Vr' Rr') ∧ Off Q w w') :
    Calls Try.prog f args w fun e w' => e = .returned ret ∧ Joint X w' p q n K Vm Rm Vr' Rr' ∧ Off X w w' := by
  obtain ⟨gl, cap, bv, br, gv, cv, gr, cr, vv, rr, h1, h2, h3⟩ := h
  have h4 : RfAt (fun j => X j ∧ ¬ MdB p n gl bv br j) w q n gv cv gr cr vv rr Vr Rr := h2.conv (fun _ _ => rfl) (fun j hj => ⟨(h2.rfB hj).1, fun hr => h3 j hr hj⟩) (fun j hj => ⟨h2.up j hj, fun hr => by have := (h1.mdB hr).2; omega⟩)
  refine (op _ _ _ _ _ _ _ h4).mono ?_
  rintro e w' ⟨he, ⟨gv', cv', gr', cr', vv', rr', hm⟩, ho⟩
  refine ⟨he, ⟨gl, cap, bv, br, gv', cv', gr', cr', vv', rr', h1.conv (fun j hj => ho.block j (h1.mdB hj).2 (fun hq => hq.2 hj)) (fun j hj => (h1.mdB hj).1) (fun j hj => h1.up j (Nat.le_trans ho.size hj)), hm.conv (fun _ _ => rfl) (fun j hj => (hm.rfB hj).1.1) (fun j hj => (hm.up j hj).1), fun j hj hr => (hm.rfB hr).1.2 hj⟩, ho.imp (fun j _ hj => hj.1)⟩
/-- What is left behind a write. -/
def Rw (fc : Bool) (R : Nat → List Nat) (i v : Nat) : Nat → List Nat := if fc then updf R i [v] else updf R i (ins v (R i))
theorem jm_write (h : Joint X w p q n K V R Vr Rr) (hi : i < n) (hv : v < 18446744073709551616) (hK : K ≤ 1000) (fc : Bool) :
    Calls Try.prog 11 #[.pointer (some ⟨p, 0, none⟩), .int .i64 (i : Nat), .int .u64 (v : Nat), .bool fc] w fun e w' => e = .returned (.int .i64 0) ∧ Joint X w' p q n (K + 1) (updf V i [v]) (Rw fc R i v) Vr Rr ∧ Off X w w' :=
  h.m fun Q gl cap bv br hm => by
    cases fc with
    | false => exact (write_plain hm hi hv hK).mono fun e w' ⟨he, ⟨b', h1⟩, ho⟩ => ⟨he, ⟨_, _, _, _, h1⟩, ho⟩
    | true => exact (write_forced hm hi hv hK).mono fun e w' ⟨he, ⟨b', h1⟩, ho⟩ => ⟨he, ⟨_, _, _, _, h1⟩, ho⟩
theorem jr_write (h : Joint X w p q n K Vm Rm V R) (hi : i < n) (hv : v < 18446744073709551616) (hR : Rising (R i)) (hl : (R i).length ≤ 100000) (fc : Bool) :
    Calls Try.prog 12 #[.pointer (some ⟨q, 0, none⟩), .int .i64 (i : Nat), .int .u64 (v : Nat), .bool fc] w fun e w' => e = .returned (.int .i64 0) ∧ Joint X w' p q n K Vm Rm (updf V i [v]) (Rw fc R i v) ∧ Off X w w' :=
  h.r fun Q gv cv gr cr vv rr hm => by
    cases fc with
    | false => exact (rwrite_plain hm hi hv hR hl).mono fun e w' ⟨he, ⟨_, _, h1⟩, ho⟩ => ⟨he, ⟨_, _, _, _, _, _, h1⟩, ho⟩
    | true => exact (rwrite_forced hm hi hv hR hl).mono fun e w' ⟨he, ⟨_, _, h1⟩, ho⟩ => ⟨he, ⟨_, _, _, _, _, _, h1⟩, ho⟩
theorem jm_begin (h : Joint X w p q n K V R Vr Rr) (hi : i < n) (hv : v < 18446744073709551616) (hK : K ≤ 1000) :
    Calls Try.prog 13 #[.pointer (some ⟨p, 0, none⟩), .int .i64 (i : Nat), .int .u64 (v : Nat)] w fun e w' => e = .returned (.int .i64 0) ∧ Joint X w' p q n (K + 1) (updf V i (ins v (V i))) (updf R i (ins v (R i))) Vr Rr ∧ Off X w w' :=
  h.m fun Q gl cap bv br hm => (begin_in hm hi hv hK).mono fun e w' ⟨he, h1, ho⟩ => ⟨he, ⟨_, _, _, _, h1⟩, ho⟩
theorem jr_begin (h : Joint X w p q n K Vm Rm V R) (hi : i < n) (hv : v < 18446744073709551616) (hV : Rising (V i)) (hR : Rising (R i)) (hlV : (V i).length ≤ 100000) (hl : (R i).length ≤ 100000) :
    Calls Try.prog 14 #[.pointer (some ⟨q, 0, none⟩), .int .i64 (i : Nat), .int .u64 (v : Nat)] w fun e w' => e = .returned (.int .i64 0) ∧ Joint X w' p q n K Vm Rm (updf V i (ins v (V i))) (updf R i (ins v (R i))) ∧ Off X w w' :=
  h.r fun Q gv cv gr cr vv rr hm => (rbegin_in hm hi hv hV hR hlV hl).mono fun e w' ⟨he, ⟨_, _, h1⟩, ho⟩ => ⟨he, ⟨_, _, _, _, _, _, h1⟩, ho⟩
theorem jm_sync (h : Joint X w p q n K V R Vr Rr) : Calls Try.prog 15 #[.pointer (some ⟨p, 0, none⟩)] w fun e w' => e = .returned (.tuple #[]) ∧ Joint X w' p q n K V V Vr Rr ∧ Off X w w' :=
  h.m fun Q gl cap bv br hm => (sync_any hm).mono fun e w' ⟨he, ⟨_, h1⟩, ho⟩ => ⟨he, ⟨_, _, _, _, h1⟩, ho⟩
theorem jr_sync (h : Joint X w p q n K Vm Rm V R) : Calls Try.prog 16 #[.pointer (some ⟨q, 0, none⟩)] w fun e w' => e = .returned (.tuple #[]) ∧ Joint X w' p q n K Vm Rm V V ∧ Off X w w' :=
  h.r fun Q gv cv gr cr vv rr hm => (rsync_any hm).mono fun e w' ⟨he, ⟨_, h1⟩, ho⟩ => ⟨he, ⟨_, _, _, _, _, _, h1⟩, ho⟩
theorem jm_cut (h : Joint X w p q n K V R Vr Rr) : Calls Try.prog 17 #[.pointer (some ⟨p, 0, none⟩)] w fun e w' => e = .returned (.tuple #[]) ∧ Joint X w' p q n K R R Vr Rr ∧ Off X w w' :=
  h.m fun Q gl cap bv br hm => (cut_any hm).mono fun e w' ⟨he, ⟨_, h1⟩, ho⟩ => ⟨he, ⟨_, _, _, _, h1⟩, ho⟩
theorem jr_cut (h : Joint X w p q n K Vm Rm V R) : Calls Try.prog 18 #[.pointer (some ⟨q, 0, none⟩)] w fun e w' => e = .returned (.tuple #[]) ∧ Joint X w' p q n K Vm Rm R R ∧ Off X w w' :=
  h.r fun Q gv cv gr cr vv rr hm => (rcut_any hm).mono fun e w' ⟨he, ⟨_, h1⟩, ho⟩ => ⟨he, ⟨_, _, _, _, _, _, h1⟩, ho⟩
/-- What a read answers, and what may be read behind it. -/
def rdE (V : Nat → List Nat) (i v : Nat) : Int := if v ∈ V i then 0 else 190
def rdV (V : Nat → List Nat) (i v : Nat) : Nat → List Nat := if v ∈ V i then updf V i [v] else V
theorem jm_read (h : Joint X w p q n K V R Vr Rr) (hi : i < n) (hv : v < 18446744073709551616) (hK : 1 ≤ K) :
    Calls Try.prog 19 #[.pointer (some ⟨p, 0, none⟩), .int .i64 (i : Nat), .int .u64 (v : Nat)] w fun e w' => e = .returned (.int .i64 (rdE V i v)) ∧ Joint X w' p q n K (rdV V i v) R Vr Rr ∧ Off X w w' :=
  h.m fun Q gl cap bv br hm => by
    unfold rdE rdV
    by_cases hm' : v ∈ V i
    · rw [if_pos hm', if_pos hm']
      exact (read_yes hm hi hv hm' hK).mono fun e w' ⟨he, ⟨_, h1⟩, ho⟩ => ⟨he, ⟨_, _, _, _, h1⟩, ho⟩
    · rw [if_neg hm', if_neg hm']
      refine (read_no hm hi hv hm').mono fun e w' ⟨he, hw⟩ => ?_
      subst hw
      exact ⟨he, ⟨_, _, _, _, hm⟩, Off.refl _ _⟩
theorem jr_read (h : Joint X w p q n K Vm Rm V R) (hi : i < n) (hv : v < 18446744073709551616) :
    Calls Try.prog 20 #[.pointer (some ⟨q, 0, none⟩), .int .i64 (i : Nat), .int .u64 (v : Nat)] w fun e w' => e = .returned (.int .i64 (rdE V i v)) ∧ Joint X w' p q n K Vm Rm (rdV V i v) R ∧ Off X w w' :=
  h.r fun Q gv cv gr cr vv rr hm => by
    unfold rdE rdV
    by_cases hm' : v ∈ V i
    · rw [if_pos hm', if_pos hm']
      exact (rread_yes hm hi hv hm').mono fun e w' ⟨he, ⟨_, h1⟩, ho⟩ => ⟨he, ⟨_, _, _, _, _, _, h1⟩, ho⟩
    · rw [if_neg hm', if_neg hm']
      refine (rread_no hm hi hv hm').mono fun e w' ⟨he, hw⟩ => ?_
      subst hw
      exact ⟨he, ⟨_, _, _, _, _, _, hm⟩, Off.refl _ _⟩
/-! ### A sector that is not there -/
theorem jm_out (h : Joint X w p q n K Vm Rm Vr Rr) {z : Int} (hz : z < 0 ∨ (n : Int) ≤ z) (x y : Value) :
    (Calls Try.prog 11 #[.pointer (some ⟨p, 0, none⟩), .int .i64 z, x, y] w fun e w' => e = .returned (.int .i64 1) ∧ w = w') ∧
    (Calls Try.prog 13 #[.pointer (some ⟨p, 0, none⟩), .int .i64 z, x] w fun e w' => e = .returned (.int .i64 1) ∧ w = w') ∧
    (Calls Try.prog 19 #[.pointer (some ⟨p, 0, none⟩), .int .i64 z, x] w fun e w' => e = .returned (.int .i64 1) ∧ w = w') ∧
    (Calls Try.prog 22 #[.pointer (some ⟨p, 0, none⟩), .int .i64 z] w fun e w' => e = .returned (.slice none 0 0) ∧ w = w') := by
  obtain ⟨gl, cap, bv, br, gv, cv, gr, cr, vv, rr, h1, h2, h3⟩ := h
  exact ⟨write_out h1 hz x y, begin_out h1 hz x, read_out h1 hz x, may_out h1 hz⟩
theorem jr_out (h : Joint X w p q n K Vm Rm Vr Rr) {z : Int} (hz : z < 0 ∨ (n : Int) ≤ z) (x y : Value) :
    (Calls Try.prog 12 #[.pointer (some ⟨q, 0, none⟩), .int .i64 z, x, y] w fun e w' => e = .returned (.int .i64 1) ∧ w = w') ∧
    (Calls Try.prog 14 #[.pointer (some ⟨q, 0, none⟩), .int .i64 z, x] w fun e w' => e = .returned (.int .i64 1) ∧ w = w') ∧
    (Calls Try.prog 20 #[.pointer (some ⟨q, 0, none⟩), .int .i64 z, x] w fun e w' => e = .returned (.int .i64 1) ∧ w = w') ∧
    (Calls Try.prog 21 #[.pointer (some ⟨q, 0, none⟩), .int .i64 z] w fun e w' => e = .returned (.bool false) ∧ w = w') := by
  obtain ⟨gl, cap, bv, br, gv, cv, gr, cr, vv, rr, h1, h2, h3⟩ := h
  exact ⟨rwrite_out h2 hz x y, rbegin_out h2 hz x, rread_out h2 hz x, in_no h2 hz⟩
theorem jr_in (h : Joint X w p q n K Vm Rm Vr Rr) (hi : i < n) :
    Calls Try.prog 21 #[.pointer (some ⟨q, 0, none⟩), .int .i64 (i : Nat)] w fun e w' => e = .returned (.bool true) ∧ w = w' := by
  obtain ⟨gl, cap, bv, br, gv, cv, gr, cr, vv, rr, h1, h2, h3⟩ := h
  exact in_yes h2 hi
theorem jm_may (h : Joint X w p q n K Vm Rm Vr Rr) (hi : i < n) (h0 : Vm i ≠ []) (hK : K ≤ 60000) :
    Calls Try.prog 22 #[.pointer (some ⟨p, 0, none⟩), .int .i64 (i : Nat)] w fun e w' => ∃ g cp, e = .returned (.slice (some ⟨g, 0, none⟩) (Vm i).length cp) ∧ w.heap.size ≤ g ∧ Ow .u64 31 w' g (Vm i).length cp ((Vm i).getD · 0) ∧ Below w.heap.size w w' := by
  obtain ⟨gl, cap, bv, br, gv, cv, gr, cr, vv, rr, h1, h2, h3⟩ := h
  refine (may_in 60000 sort_long (by omega) h1 hi h0 (by have := h1.lv i hi; omega)).mono ?_
  rintro e w' ⟨⟨v, rfl, hv⟩, hb⟩
  obtain ⟨g, cp, rfl, hg, how⟩ := hv.ow (List.length_pos_iff.2 h0)
  exact ⟨g, cp, rfl, hg, how, hb⟩
/-- The document's view of a sector: where it lies. -/
theorem jr_view (h : Joint X w p q n K Vm Rm Vr Rr) (hi : i < n) : ∃ gv cv sa sl sc, w.cell? ⟨q, 0, none⟩ = some (.slice (some ⟨gv, 0, none⟩) n cv) ∧ (n ≤ cv ∧ cv ≤ maxLen) ∧ w.cell? ⟨gv, i, none⟩ = some (.slice sa sl sc) ∧ Rd .u64 w (.slice sa sl sc) (Vr i) := by
  obtain ⟨gl, cap, bv, br, gv, cv, gr, cr, vv, rr, h1, h2, h3⟩ := h
  obtain ⟨sa, sl, sc, hs⟩ := (h2.sv i hi).sl
  exact ⟨gv, cv, sa, sl, sc, h2.cells.1, h2.hc.1, hs ▸ h2.cellV hi, hs ▸ (h2.sv i hi).rd⟩
/-- At the start. -/
theorem Joint.start {B : Nat} {gl cap gv cv gr cr : Nat} {bv br : Nat → Nat} {vv rr : Nat → Value} {w2 : World} (hm : Go.Proofs.Ytboonpfdlbedoaa.MdAt B w p n K gl cap bv br V R) (hb : Below w.heap.size w w2) (hq : w.heap.size ≤ q)
    (hr : RfAt (fun j => w.heap.size ≤ j) w2 q n gv cv gr cr vv rr V R) : Joint (fun j => B ≤ j) w2 p q n K V R V R := by
  have hB : B ≤ w.heap.size := hm.base
  have h1 : MdAt (fun j => B ≤ j ∧ j < w.heap.size ∨ w2.heap.size ≤ j) w2 p n K gl cap bv br V R := MdAt.ofOld hm hb (fun j h1 h2 => .inl ⟨h1, h2⟩) (fun j hj => .inr hj)
  refine ⟨gl, cap, bv, br, gv, cv, gr, cr, vv, rr, h1.conv (fun _ _ => rfl) (fun j hj => ?_) (fun j hj => ?_), hr.conv (fun _ _ => rfl) (fun j hj => ?_) (fun j hj => ?_), fun j hj hr' => ?_⟩
  · rcases (h1.mdB hj).1 with h | h
    · exact h.1
    · have := (h1.mdB hj).2; omega
  · have := hb.size; show B ≤ j; omega
  · have := (hr.rfB hj).1; show B ≤ j; omega
  · have := hb.size; show B ≤ j; omega
  · have h5 := (hr.rfB hr').1
    rcases (h1.mdB hj).1 with h | h
    · omega
    · have := (h1.mdB hj).2; omega
end
end Go.Proofs.Ytboonpfdlbedoaa.Qv
