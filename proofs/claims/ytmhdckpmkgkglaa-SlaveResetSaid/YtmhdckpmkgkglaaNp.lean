/- The line: what region 17 (Take, its answer boxed) loads and leaves. -/
import Derived.Test.YtmhdckpmkgkglaaNm
import Derived.Test.YtmhdckpmkgkglaaNo
set_option linter.unusedVariables false
set_option linter.unusedSimpArgs false
namespace Go.Proofs.Ytmhdckpmkgkglaa
open Go.RowKit

/-- What a region loads that takes the first frame down. -/
def HeadsS (x gs fk fo : Nat) (vd : Value) (f : FR) (u : Value) (w : World) : Prop :=
  w.cell? ⟨x, 1, none⟩ = some (.pointer (some ⟨gs, 0, none⟩)) ∧ w.cell? ⟨x, 2, none⟩ = some vd ∧ w.cell? ⟨fk, fo, none⟩ = some (.int .u8 f.addr) ∧ w.cell? ⟨fk, fo + 1, none⟩ = some (.int .u8 f.kind) ∧ w.cell? ⟨fk, fo + 2, none⟩ = some (.int .u8 f.sess) ∧ w.cell? ⟨fk, fo + 3, none⟩ = some (.int .u8 f.seq) ∧ w.cell? ⟨fk, fo + 4, none⟩ = some (.int .u8 f.ack) ∧ w.cell? ⟨fk, fo + 5, none⟩ = some u
section
variable {w w1 w2 : World} {B x gm gs fk fo bx : Nat} {vd vu u : Value} {ds us : List (FR × Value)} {L : LS} {f : FR}
theorem HeadsS.fkl (h : HeadsS x gs fk fo vd f u w) : fk < w.heap.size := World.block_lt_of_cell? w _ h.2.2.1
theorem HeadsS.xl (h : HeadsS x gs fk fo vd f u w) : x < w.heap.size := World.block_lt_of_cell? w _ h.1
theorem HeadsS.below (h : HeadsS x gs fk fo vd f u w) (hb : Below w.heap.size w w1) : HeadsS x gs fk fo vd f u w1 := heads_below h hb
theorem cell_grown {row : Option Nat} {a : Addr} {z : Value} (g : w.grownBy w1 row) (hc : w.cell? a = some z) (hn : some a.block ≠ row) : w1.cell? a = some z := by
  have hlt := World.block_lt_of_cell? w a hc
  have hb := g.block a.block hlt hn
  unfold World.cell? at hc ⊢
  rw [hb]
  exact hc
theorem HeadsS.grown (h : HeadsS x gs fk fo vd f u w) (g : w.grownBy w1 (some bx)) (hx : x ≠ bx) (hk : fk ≠ bx) : HeadsS x gs fk fo vd f u w1 := by
  have k1 : ∀ {i : Nat} {z : Value}, w.cell? ⟨x, i, none⟩ = some z → w1.cell? ⟨x, i, none⟩ = some z := fun hc => cell_grown g hc (fun e => hx (by simpa using e))
  have k2 : ∀ {i : Nat} {z : Value}, w.cell? ⟨fk, i, none⟩ = some z → w1.cell? ⟨fk, i, none⟩ = some z := fun hc => cell_grown g hc (fun e => hk (by simpa using e))
  obtain ⟨h1, h2, h3, h4, h5, h6, h7, h8⟩ := h
  exact ⟨k1 h1, k1 h2, k2 h3, k2 h4, k2 h5, k2 h6, k2 h7, k2 h8⟩
/-- A box of another type 29 is written: the line stays. -/
theorem LineIn.boxed {cs : Array Value} {fr : Nat × Nat} (h : LineIn w B x gm gs vd vu ds us L) (hb : w.heap[bx]? = some (.cells cs 29 fr)) (g : w.grownBy w1 (some bx)) (hB : B ≤ bx) (hd : ∀ k, vd.ownBlock = some k → k ≠ bx) (hu : ∀ k, vu.ownBlock = some k → k ≠ bx) :
    Kept B [29] w w1 ∧ LineIn w1 B x gm gs vd vu ds us L := by
  have k : Kept B [29] w w1 := Kept.of_grown g hb (by simp) hB
  have hw : ∀ {v : Value} {ps : List (FR × Value)}, WireIn w B v ps → (∀ j, v.ownBlock = some j → j ≠ bx) → WireIn w1 B v ps := fun hh hn =>
    ⟨hh.row.grown g fun j hj e => hn j hj (by simpa using e), fun p hp => k.own (by decide) (hh.bs p hp)⟩
  exact ⟨k, h.ge, k.blk h.blk (by decide), h.m.kept k (by decide) (by decide) (by decide), h.s.kept k (by decide) (by decide), hw h.d hd, hw h.u hu, h.de, h.ue, h.dj⟩
end
/-- Behind Take: the answer in a box, the command, the line with the slave as it is then. -/
def TookI (w : World) (B x gm gs : Nat) (vd vu : Value) (ds us : List (FR × Value)) (L : LS) (r : FR) (cmd : List UInt8) (p c : Value) (w' : World) : Prop :=
  ∃ bx A1 c1 A2 c2, p = .pointer (some ⟨bx, 0, none⟩) ∧ c = .slice A2 cmd.length c2 ∧ w.heap.size ≤ bx ∧ Kept B [77, 22, 43, 63, 29] w w' ∧ LineIn w' B x gm gs vd vu ds us L ∧
    w'.heap[bx]? = some (.cells #[.int .u8 r.addr, .int .u8 r.kind, .int .u8 r.sess, .int .u8 r.seq, .int .u8 r.ack, .slice A1 r.b.length c1] 29 (0, 0)) ∧
    w'.ownsRow w.heap.size 5 1 (.slice A1 r.b.length c1) r.b.length (bytesV r.b) ∧ w'.ownsRow w.heap.size 5 1 (.slice A2 cmd.length c2) cmd.length (bytesV cmd)
theorem took_end {W w1 w2 : World} {B x gm gs bx c1 c2 : Nat} {vd vu : Value} {ds us : List (FR × Value)} {L : LS} {r : FR} {cmd : List UInt8} {A1 A2 : Option Addr} {cs : Array Value} (hB : B ≤ W.heap.size)
    (k : Kept B [77, 22, 43, 63, 29] W w1) (hl : LineIn w1 B x gm gs vd vu ds us L) (hb : w1.heap[bx]? = some (.cells cs 29 (0, 0))) (g : w1.grownBy w2 (some bx))
    (hb2 : w2.heap[bx]? = some (.cells #[.int .u8 r.addr, .int .u8 r.kind, .int .u8 r.sess, .int .u8 r.seq, .int .u8 r.ack, .slice A1 r.b.length c1] 29 (0, 0))) (hge : W.heap.size ≤ bx)
    (hd : ∀ k, vd.ownBlock = some k → k = bx → False) (hu : ∀ k, vu.ownBlock = some k → k = bx → False)
    (ho1 : w1.ownsRow W.heap.size 5 1 (.slice A1 r.b.length c1) r.b.length (bytesV r.b)) (ho2 : w1.ownsRow W.heap.size 5 1 (.slice A2 cmd.length c2) cmd.length (bytesV cmd)) :
    TookI W B x gm gs vd vu ds us L r cmd (.pointer (some ⟨bx, 0, none⟩)) (.slice A2 cmd.length c2) w2 := by
  obtain ⟨k2, hl2⟩ := hl.boxed hb g (Nat.le_trans hB hge) hd hu
  exact ⟨bx, A1, c1, A2, c2, rfl, rfl, hge, k.trans (k2.mono (by simp)), hl2, hb2, k2.own (by decide) ho1, k2.own (by decide) ho2⟩
/-- A row of one frame is made. -/
theorem run_build6 (w : World) (u0 u1 u2 u3 u4 u5 : Value) :
    (Instr.buildSlice 61 1 #[(0, .agg #[u0, u1, u2, u3, u4, u5])]).run Try.prog w = .ok (.slice (some ⟨w.heap.size, 0, none⟩) 1 1) (w.alloc (.cells #[u0, u1, u2, u3, u4, u5] 29)) := by
  obtain ⟨i0, hi, hz0, hz1, hz2⟩ := info_parts Try.info29
  simp [Instr.buildSlice, run_underlying Try.underlying61, sizeOf, typeInfo, hi, hz1, zeroValue, hz0, newRow, newObj]
  have hf : ∀ (Z : Array Value), Z.size = 6 → Instr.fill (fun i => some (i * 6, 6)) Z [(0, Value.agg #[u0, u1, u2, u3, u4, u5])] = some #[u0, u1, u2, u3, u4, u5] := by
    intro Z hZ
    obtain ⟨l⟩ := Z
    match l, hZ with
    | [a, b, c, d, e, f], _ => simp [Instr.fill, Value.cells]
  rw [hf _ (by simp)]
  rfl
theorem step_build6 {w : World} {ops : Array Oper} {o : Oper} {a : Act} {K : Act → World → Prop} {Q : Exit → Act → World → Prop} {E : Prop} (hgd : o.guard = none) (x : Operand) (ho : o.op = .buildSlice 61 1 #[(0, x)]) (u0 u1 u2 u3 u4 u5 : Value)
    (hx : a.eval x = .agg #[u0, u1, u2, u3, u4, u5]) (W : World) (hW : w.alloc (.cells #[u0, u1, u2, u3, u4, u5] 29) = W) (h : K (a.put o.dst (.slice (some ⟨w.heap.size, 0, none⟩) 1 1)) W) :
    if Region.wanted o (yielded ops a.tmps) = true then Oper.wp Try.prog o a w K Q else E := by
  have hw : Region.wanted o (yielded ops a.tmps) = true := by simp [Region.wanted, hgd]
  rw [if_pos hw]
  subst hW
  have hr := run_build6 w u0 u1 u2 u3 u4 u5
  unfold Oper.wp execOp
  simp only [ho, List.map_toArray, List.map_cons, List.map_nil, hx, Sem.run_bind, Sem.run_pure, hr, Result.andThen_ok]
  exact h
end Go.Proofs.Ytmhdckpmkgkglaa
