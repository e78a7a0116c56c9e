/- Addrs. -/
import Derived.Test.YtmkbleeideddkaaPe
set_option linter.unusedVariables false
set_option linter.unusedSimpArgs false
namespace Go.Proofs.Ytmkbleeideddkaa
open Go.RowKit

def addrV (l : List PP) : List Value := l.map fun p => .int .u8 p.addr
theorem addr_take (l : List PP) (k : Nat) (p : PP) (h : l[k]? = some p) : addrV (l.take (k + 1)) = addrV (l.take k) ++ [.int .u8 p.addr] := by
  obtain ⟨h1, h2⟩ := List.getElem?_eq_some_iff.1 h
  unfold addrV
  rw [List.take_succ_eq_append_getElem h1, List.map_append, h2]
  rfl

set_option maxHeartbeats 4000000 in
theorem poll_addrs (w : World) (B g : Nat) (P : PS) (h : PollAt w B g P) :
    Calls Try.prog 21 #[.pointer (some ⟨g, 0, none⟩)] w fun e w' => Below w.heap.size w w' ∧ ∃ v, e = .returned v ∧ w'.ownsRow w.heap.size 5 1 v P.row.length (addrV P.row) := by
  obtain ⟨v0, us, hin⟩ := h
  obtain ⟨A0, c0, rfl⟩ := own_slice hin.row
  obtain ⟨i0, hi, hz0, hz1, hz2⟩ := info_parts Try.info5
  have g0 := blk_cell hin.blk 0
  simp at g0
  have hn40 := hin.n40
  have HI := Lib.hid hin
  clear hin
  go_enter Try.func21, Try.ntmps21
  go_wp2_with fail
  go_loopw [2, 10] (fun r i wr => ∃ k : Nat, k ≤ P.row.length ∧ i = .int .i64 k ∧ Below w.heap.size w wr ∧ wr.ownsRow w.heap.size 5 1 r k (addrV (P.row.take k))) (fun _ i _ => P.row.length - (intOf i).toNat)
  case atStart =>
    exact ⟨0, Nat.zero_le _, rfl, Below.refl _ _, World.ownsRow_nil _ _ _ _⟩
  case round =>
    obtain ⟨k, hk, rfl, hbr, hown⟩ := hrel
    obtain ⟨A, c, rfl⟩ := own_slice hown
    have HBR := Lib.hid hbr
    have HO := Lib.hid hown
    clear hown
    by_cases hlt : k < P.row.length
    · obtain ⟨pa, gr, c', p, ha, hp, hpe, he, hc1, hc2, hcell⟩ := (HI.out.below hbr).at hlt
      cases he
      have p0 := blk_cell hpe 0
      simp at p0
      have HP := Lib.hid hp
      clear ha hp hpe hbr
      have hwl := HBR.out.size
      go_wp2_with (at_builtin; go_loud (refine wpList_append_own _ rfl (.tmp 14) (.tmp 19) 22 rfl w.heap.size 5 i0 (.int .u8 0) 1 1 Try.underlying22 hi hz0 hz1 hz2 rfl (by decide) (.slice A k c) k (addrV (P.row.take k)) rfl ?_ ⟨wr.heap.size, 0, none⟩ 1 1 [.int .u8 p.addr] rfl rfl ?_ ?_ ?_ ?_ ?_ ?_))
      · exact own_below HO.out ((Below.refl _ _).alloc (Nat.le_refl _) _)
      · exact news_one (blk_new _ _)
      · simp [Value.oneCell']
      · unfold maxLen; omega
      · omega
      · simp; omega
      intro v3 w3 ho3 hg3 _
      have hb3 : Below w.heap.size w w3 := HBR.out.trans (((Below.refl _ _).alloc hwl _).grown hg3 (by simp; omega) fun q hq => (own_lt HO.out q hq).1)
      obtain ⟨A3, c3, rfl⟩ := own_slice ho3
      have HO3 := Lib.hid ho3
      have HB3 := Lib.hid hb3
      clear ho3 hg3 hb3
      go_wp2_with fail
      go_roundw
      case rel =>
        refine ⟨k + 1, by omega, by go_num, HB3.out, ?_⟩
        rw [addr_take _ _ _ HP.out]
        exact HO3.out
      case measure => simp [intOf]; omega
    · obtain rfl : k = P.row.length := by omega
      have htl : P.row.take P.row.length = P.row := List.take_length
      rw [htl] at HO
      clear htl
      go_wp2_with fail
      go_ret
      exact ⟨HBR.out, _, rfl, HO.out⟩
end Go.Proofs.Ytmkbleeideddkaa
