/- What is told of a page: the bits set right, counted; the cells of a head copied. -/
import Derived.Test.YtoanopegoilcnaaGreatJw
import Derived.Test.YtoanopegoilcnaaGreatJr
import Derived.Test.YtoanopegoilcnaaGreatJs
set_option linter.unusedVariables false
namespace Go.Proofs.YtoanopegoilcnaaGreat
open Go.RowKit Go.Mem Go.Pg
section
variable {w5 wr : World} {ob : Nat} {c0 c1 c2 c3 c4 c5 c6 c7 fl zw zs : Value} {words : List Nat} {rows : List (List Nat)}
/-- Another count. -/
theorem UnL.flips (h : UnL w5 wr ob c0 c1 c2 c3 c4 c5 c6 c7 fl zw zs words rows) (hob : ob < w5.heap.size) (v : Value) : UnL w5 (wr.setCell ⟨ob, 10, none⟩ v) ob c0 c1 c2 c3 c4 c5 c6 c7 v zw zs words rows := by
  refine ⟨set_at h.ho 10 _, h.hw.kept (grown_set wr ob 10 _) ?_, h.hr.kept (b := ob) (grown_set wr ob 10 _) ?_ (.inr hob), h.ne, grow_row h.gr (grown_set wr ob 10 _) (fun q hq => .inl hq)⟩
  · cases hz : zw.ownBlock with
    | none => exact .inl rfl
    | some q => exact .inr (fun e => by have := (h.hw.blk q hz).1; simp only [Option.some.injEq] at e; omega)
  · intro e
    have := (h.hr.blk ob e).1
    omega
end
/-- A head's cells copied into what is told, its verdict and its count ahead and behind. -/
theorem head_set {W : World} {b : Nat} {a0 a1 a2 a3 a4 a5 a6 a7 a8 a9 a10 : Value} {t : TypeId} (h : W.heap[b]? = some (.cells #[a0, a1, a2, a3, a4, a5, a6, a7, a8, a9, a10] t (0, 0))) (v1 v2 v3 v4 v5 v6 v7 v10 : Value) :
    ((((((((W.setCell ⟨b, 1, none⟩ v1).setCell ⟨b, 2, none⟩ v2).setCell ⟨b, 3, none⟩ v3).setCell ⟨b, 4, none⟩ v4).setCell ⟨b, 5, none⟩ v5).setCell ⟨b, 6, none⟩ v6).setCell ⟨b, 7, none⟩ v7).setCell ⟨b, 10, none⟩ v10).heap[b]? = some (.cells #[a0, v1, v2, v3, v4, v5, v6, v7, a8, a9, v10] t (0, 0)) ∧
    W.grownBy ((((((((W.setCell ⟨b, 1, none⟩ v1).setCell ⟨b, 2, none⟩ v2).setCell ⟨b, 3, none⟩ v3).setCell ⟨b, 4, none⟩ v4).setCell ⟨b, 5, none⟩ v5).setCell ⟨b, 6, none⟩ v6).setCell ⟨b, 7, none⟩ v7).setCell ⟨b, 10, none⟩ v10) (some b) := by
  refine ⟨?_, ?_⟩
  · have s1 : (W.setCell ⟨b, 1, none⟩ v1).heap[b]? = some (.cells #[a0, v1, a2, a3, a4, a5, a6, a7, a8, a9, a10] t (0, 0)) := set_at h 1 v1
    have s2 : ((W.setCell ⟨b, 1, none⟩ v1).setCell ⟨b, 2, none⟩ v2).heap[b]? = some (.cells #[a0, v1, v2, a3, a4, a5, a6, a7, a8, a9, a10] t (0, 0)) := set_at s1 2 v2
    have s3 : (((W.setCell ⟨b, 1, none⟩ v1).setCell ⟨b, 2, none⟩ v2).setCell ⟨b, 3, none⟩ v3).heap[b]? = some (.cells #[a0, v1, v2, v3, a4, a5, a6, a7, a8, a9, a10] t (0, 0)) := set_at s2 3 v3
    have s4 : ((((W.setCell ⟨b, 1, none⟩ v1).setCell ⟨b, 2, none⟩ v2).setCell ⟨b, 3, none⟩ v3).setCell ⟨b, 4, none⟩ v4).heap[b]? = some (.cells #[a0, v1, v2, v3, v4, a5, a6, a7, a8, a9, a10] t (0, 0)) := set_at s3 4 v4
    have s5 : (((((W.setCell ⟨b, 1, none⟩ v1).setCell ⟨b, 2, none⟩ v2).setCell ⟨b, 3, none⟩ v3).setCell ⟨b, 4, none⟩ v4).setCell ⟨b, 5, none⟩ v5).heap[b]? = some (.cells #[a0, v1, v2, v3, v4, v5, a6, a7, a8, a9, a10] t (0, 0)) := set_at s4 5 v5
    have s6 : ((((((W.setCell ⟨b, 1, none⟩ v1).setCell ⟨b, 2, none⟩ v2).setCell ⟨b, 3, none⟩ v3).setCell ⟨b, 4, none⟩ v4).setCell ⟨b, 5, none⟩ v5).setCell ⟨b, 6, none⟩ v6).heap[b]? = some (.cells #[a0, v1, v2, v3, v4, v5, v6, a7, a8, a9, a10] t (0, 0)) := set_at s5 6 v6
    have s7 : (((((((W.setCell ⟨b, 1, none⟩ v1).setCell ⟨b, 2, none⟩ v2).setCell ⟨b, 3, none⟩ v3).setCell ⟨b, 4, none⟩ v4).setCell ⟨b, 5, none⟩ v5).setCell ⟨b, 6, none⟩ v6).setCell ⟨b, 7, none⟩ v7).heap[b]? = some (.cells #[a0, v1, v2, v3, v4, v5, v6, v7, a8, a9, a10] t (0, 0)) := set_at s6 7 v7
    exact set_at s7 10 v10
  · exact grow_row (grow_row (grow_row (grow_row (grow_row (grow_row (grow_row (grown_set W b 1 _) (grown_set _ b 2 _) (fun _ h => .inl h)) (grown_set _ b 3 _) (fun _ h => .inl h)) (grown_set _ b 4 _) (fun _ h => .inl h)) (grown_set _ b 5 _) (fun _ h => .inl h)) (grown_set _ b 6 _) (fun _ h => .inl h)) (grown_set _ b 7 _) (fun _ h => .inl h)) (grown_set _ b 10 _) (fun _ h => .inl h)
/-- A call with two arguments that leaves the world alone, at a step of a region that draws. -/
theorem _root_.Go.Mem.step_call2q {P : Program} {ops : Array Oper} {o : Oper} {a : Act} {w : World} {K : Act → World → Prop} {Q : Exit → Act → World → Prop} {E : Prop} (hgd : o.guard = none) (f : FuncId) (he : ∀ args w, (callFunc f args).run P w = .ok (.enter f args) w)
    (x y : Operand) (ts : Array TypeId) (ho : o.op = .call { callee := .value (.func f), args := #[x, y], argTypes := ts }) (v z : Value) (hv : a.eval x = v) (hz : a.eval y = z) (u : Value)
    (hc : Calls P f #[v, z] w fun e w' => e = .returned u ∧ w = w') (h : K (a.put o.dst u) w) : if Region.wanted o (yielded ops a.tmps) = true then Oper.wp P o a w K Q else E :=
  step_call2 hgd f he x y ts ho v z hv hz u (fun w' => w = w') hc (fun w' e => e ▸ h)
theorem hdO_bad {S N T mw mh x0k : Nat} {l x0 : List Nat} {s0 : Nat} (hop : opnB mh T (9 + 11 * N) (cut l (N * wdB S T mw) (9 + 11 * N + 4 + pcn mh T)) = some (x0, s0, x0k)) (hm : ¬ (sum x0 = s0 ∧ (headP N x0).May N)) : hdO S N T mw mh l = none := by
  unfold hdO; rw [hop]; exact if_neg (fun h => hm ⟨h.1, h.2.2⟩)
theorem hdO_yes {S N T mw mh x0k : Nat} {l x0 : List Nat} {s0 : Nat} (hop : opnB mh T (9 + 11 * N) (cut l (N * wdB S T mw) (9 + 11 * N + 4 + pcn mh T)) = some (x0, s0, x0k)) (ht : ones (l.drop (lastB S N T mw mh)) ≤ T) (hs : sum x0 = s0) (hm : (headP N x0).May N) : hdO S N T mw mh l = some (headP N x0, x0k) := by
  unfold hdO; rw [hop]; exact if_pos ⟨hs, ht, hm⟩
theorem opn_yes {S N T mw mh k : Nat} {l : List Nat} {h : Head} (he : ¬ 8 * l.length - ones l ≤ T) (hd : hdO S N T mw mh l = some (h, k)) :
    opn S N T mw mh l = ⟨false, vd k, some h, (List.range N).map (fun i => vdO (scO S T mw l h i)), (List.range N).map (fun i => (scO S T mw l h i).map (·.1)), k + flS S T mw l h N⟩ := by
  unfold opn; rw [if_neg he, hd]; rfl
end Go.Proofs.YtoanopegoilcnaaGreat
/- Loops taken out of a function's text. -/
namespace Go.Proofs.YtoanopegoilcnaaGreat
open Go.RowKit Go.Mem Go.Pg
/-- The number of the region that stands first. -/
def firstReg : Code → Option Nat
  | .region i _ _ => some i
  | .seq a b => match firstReg a with
    | some c => some c
    | none => firstReg b
  | .block _ c => firstReg c
  | .scope c => firstReg c
  | .loop c => firstReg c
  | _ => none
/-- The loop whose body begins with region k. -/
def loopAt (k : Nat) : Code → Option Code
  | .loop c => if firstReg c = some k then some c else loopAt k c
  | .seq a b => match loopAt k a with
    | some c => some c
    | none => loopAt k b
  | .block _ c => loopAt k c
  | .scope c => loopAt k c
  | .cond _ a b => match loopAt k a with
    | some c => some c
    | none => loopAt k b
  | _ => none
noncomputable def lpSlots : Code := (Tryz.f13.body.bind (loopAt 32)).getD .skip
noncomputable def lpGood : Code := (Tryz.f13.body.bind (loopAt 43)).getD .skip
end Go.Proofs.YtoanopegoilcnaaGreat
