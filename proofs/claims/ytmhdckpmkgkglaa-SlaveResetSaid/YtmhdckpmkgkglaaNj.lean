/- The line: the first frame down is there twice. -/
import Derived.Test.YtmhdckpmkgkglaaNi
set_option linter.unusedVariables false
set_option linter.unusedSimpArgs false
namespace Go.Proofs.Ytmhdckpmkgkglaa
open Go.RowKit

set_option maxHeartbeats 4000000 in
set_option maxRecDepth 100000 in
theorem dup_D (w : World) (B x gm gs : Nat) (vd vu : Value) (f : FR) (u : Value) (ps us : List (FR × Value)) (L : LS) (hl : LineIn w B x gm gs vd vu ((f, u) :: ps) us L) (hlt : ps.length + 1 < 20) :
    Calls Try.prog 22 #[.pointer (some ⟨x, 0, none⟩), .agg #[.int .i64 12]] w (DoesEnd w B x gm gs true { L with down := ((f, u) :: (f, u) :: ps).map Prod.fst }) := by
  obtain ⟨Au, cu, rfl⟩ := hl.u.row.slice
  obtain ⟨fk, fo, fc, Af, cb, rfl, hfc1, hfc2, rfl, q0, q1, q2, q3, q4, q5⟩ := hl.d.head
  obtain ⟨i0, hi, hz0, hz1, hz2⟩ := info_parts Try.info29
  have hal : Below w.heap.size w (w.alloc (.cells #[.int .i64 12] 59)) := (Below.refl _ _).alloc (Nat.le_refl _) _
  have x2 := blk_cell hl.blk 2
  simp at x2
  have hxl := hl.lt
  have hge := hl.ge
  have hfk : fk < w.heap.size := World.block_lt_of_cell? w _ q0
  have hltd : decide (((ps.length + 1 : Nat) : Int) < 20) = true := by simp; omega
  have HL := Lib.hid hl
  have hw1 : Below w.heap.size w ((w.alloc (.cells #[.int .i64 12] 59)).alloc (.cells #[.int .u8 f.addr, .int .u8 f.kind, .int .u8 f.sess, .int .u8 f.seq, .int .u8 f.ack, .slice Af f.b.length cb] 29)).drew := (hal.alloc (by simp) _).drew
  have HW1 := Lib.hid hw1
  have HB1 : Hid (((w.alloc (.cells #[.int .i64 12] 59)).alloc (.cells #[.int .u8 f.addr, .int .u8 f.kind, .int .u8 f.sess, .int .u8 f.seq, .int .u8 f.ack, .slice Af f.b.length cb] 29)).drew.heap[w.heap.size + 1]? = some (.cells #[.int .u8 f.addr, .int .u8 f.kind, .int .u8 f.sess, .int .u8 f.seq, .int .u8 f.ack, .slice Af f.b.length cb] 29)) := blk_drew (blk_new' _ _ _ (by simp))
  have hfr : OffRow ((w.alloc (.cells #[.int .i64 12] 59)).alloc (.cells #[.int .u8 f.addr, .int .u8 f.kind, .int .u8 f.sess, .int .u8 f.seq, .int .u8 f.ack, .slice Af f.b.length cb] 29)).drew w.heap.size 29 6 (.slice (some ⟨w.heap.size + 1, 0, none⟩) 1 1) 1 [.int .u8 f.addr, .int .u8 f.kind, .int .u8 f.sess, .int .u8 f.seq, .int .u8 f.ack, .slice Af f.b.length cb] :=
    ⟨rfl, .inr ⟨w.heap.size + 1, 0, 1, _, by rw [Nat.zero_mul], Nat.le_succ _, HB1.out, Nat.le_refl _, by unfold maxLen; omega, by simp, rfl⟩⟩
  have HFR := Lib.hid hfr
  have HCA := Lib.hid (OffRow.cellsAdd (hl.d.row.below hw1))
  have hone : ∀ p ∈ ((f, (.slice Af f.b.length cb : Value)) :: ps), p.2.oneCell' = true := by
    intro p hp
    obtain ⟨A', c', e⟩ := own_slice (hl.d.bs p hp)
    rw [e]
    rfl
  have HONE := Lib.hid (cells6_one _ hone)
  have hcl := cells6_len ((f, (.slice Af f.b.length cb : Value)) :: ps)
  have HCL := Lib.hid hcl
  have SZ : Hid (w.heap.size ≤ ((w.alloc (.cells #[.int .i64 12] 59)).alloc (.cells #[.int .u8 f.addr, .int .u8 f.kind, .int .u8 f.sess, .int .u8 f.seq, .int .u8 f.ack, .slice Af f.b.length cb] 29)).drew.heap.size) := hw1.size
  clear hal hl hw1 hfr hone hcl
  go_enter Try.func22, Try.ntmps22
  go_upto_region 45 with fail
  go_region_law
    ((first
      | (refine step_append_off2 ?_ (.tmp 281) (.tmp 285) 61 ?_ w.heap.size 29 i0 (.agg #[.int .u8 0, .int .u8 0, .int .u8 0, .int .u8 0, .int .u8 0, .slice none 0 0]) 6 32 Try.underlying61 hi hz0 hz1 hz2 ?_ ?_ (.slice (some ⟨w.heap.size + 1, 0, none⟩) 1 1) 1 [.int .u8 f.addr, .int .u8 f.kind, .int .u8 f.sess, .int .u8 f.seq, .int .u8 f.ack, .slice Af f.b.length cb] ?_ ?_ ⟨fk, fo, none⟩ (ps.length + 1) fc (cells6 ((f, .slice Af f.b.length cb) :: ps)) ?_ ?_ ?_ ?_ ?_ ?_ ?_ ?_ ?_
         · rfl
         · rfl
         · rfl
         · decide
         · rfl
         · exact HFR.out
         · rfl
         · exact HCL.out
         · exact HCA.out
         · exact HONE.out
         · (unfold maxLen; omega)
         · omega
         · exact SZ.out
         · omega
         intro v2 w2 ho2 hg2 _
         have hd := dup_wire HL.out.d HW1.out (by omega) (Nat.le_succ _) hg2 ho2
         have hl2 := HL.out.below hd.1
         have hs2 := hl2.setD hd.2.1 (fun k hk e => by have := hd.2.2 k hk; have := HL.out.u.lt k e; omega)
         have HK := Lib.hid ((Kept.of_below (B := B) (ts := [63]) hd.1).trans hs2.1)
         have HS := Lib.hid hs2.2
         have hfz := blk_frozen hl2.blk 2
         have h2c := blk_cell hl2.blk 2
         simp at h2c
         obtain ⟨A2, c2, rfl⟩ := ho2.slice
         clear ho2 hg2 hd hl2 hs2)))
  all_goals
    go_wp2_with fail
    go_ret
    exact ⟨rfl, HK.out.mono (by simp), _, _, _, _, HS.out⟩
end Go.Proofs.Ytmhdckpmkgkglaa
