/- The reference's Next. Written by gen_refb.py. -/
import Derived.Test.YtdgbmiobfehpdaaRa
set_option linter.unusedVariables false
set_option linter.unusedSimpArgs false
namespace Go.Proofs.Ytdgbmiobfehpdaa
open Go.RowKit

set_option maxHeartbeats 1600000 in
theorem refm_next_closed (w : World) (g : Nat) (a n t st ep s h ms : Int) (v : Value) (hst : st ≠ 1)
    (hg : w.heap[g]? = some (.cells #[.int .u8 a, .int .u8 n, .int .i64 t, .int .i64 st, .int .i64 ep, .int .u8 s, .int .u8 h, v, .int .i64 ms] 51 (0, 0))) :
    Calls Try.prog 24 #[.pointer (some ⟨g, 0, none⟩)] w fun e w' => e = .returned (.agg #[.int .u8 a, .int .u8 1, .int .u8 n, .int .u8 0, .int .u8 0, .string ⟨#[]⟩]) ∧ Below w.heap.size w w' := by
  have k1 : (st != 1) = true := by simpa using hst
  obtain ⟨h0, h1, h2, h3, h4, h5, h6, h7, h8⟩ := blk9 hg
  have hne2 := World.new_ne w ⟨g, 2, none⟩ h2
  simp only [] at hne2
  have hlt := blk_lt hg
  have hne3 : ¬ (w.heap.size + 1 = g) := by omega
  have hne4 : ¬ (g = w.heap.size + 1) := by omega
  have hne5 : ¬ (g = w.heap.size) := by omega
  clear hg h2 h4 h8
  go_enter Try.func24, Try.ntmps24
  go_wp2_with fail
  go_region_held3 (fun w' => w'.cell? ⟨g, 0, none⟩ = some (.int .u8 a) ∧ w'.cell? ⟨g, 1, none⟩ = some (.int .u8 n) ∧ w'.cell? ⟨g, 3, none⟩ = some (.int .i64 st)) (go_keep) (fail)
  go_wp2
  refine bodyPost_ret (v := .agg #[.int .u8 a, .int .u8 1, .int .u8 n, .int .u8 0, .int .u8 0, .string ⟨#[]⟩]) (by simp [results, Try.results24, go_sem]) rfl ⟨rfl, ?_⟩
  go_grown

set_option maxHeartbeats 1600000 in
theorem refm_next_poll (w : World) (g : Nat) (a n t st ep s h ms : Int) (v : Value) (A : Option Addr) (c : Nat)
    (hg : w.heap[g]? = some (.cells #[.int .u8 a, .int .u8 n, .int .i64 t, .int .i64 1, .int .i64 ep, .int .u8 s, .int .u8 h, .slice A 0 c, .int .i64 ms] 51 (0, 0))) :
    Calls Try.prog 24 #[.pointer (some ⟨g, 0, none⟩)] w fun e w' => e = .returned (.agg #[.int .u8 a, .int .u8 3, .int .u8 n, .int .u8 s, .int .u8 h, .string ⟨#[]⟩]) ∧ Below w.heap.size w w' := by
  obtain ⟨h0, h1, h2, h3, h4, h5, h6, h7, h8⟩ := blk9 hg
  have hne2 := World.new_ne w ⟨g, 2, none⟩ h2
  simp only [] at hne2
  have hlt := blk_lt hg
  have hne3 : ¬ (w.heap.size + 1 = g) := by omega
  have hne4 : ¬ (g = w.heap.size + 1) := by omega
  have hne5 : ¬ (g = w.heap.size) := by omega
  clear hg h2 h4 h8
  go_enter Try.func24, Try.ntmps24
  go_wp2_with fail
  go_region_held3 (fun w' => w'.cell? ⟨g, 0, none⟩ = some (.int .u8 a) ∧ w'.cell? ⟨g, 1, none⟩ = some (.int .u8 n) ∧ w'.cell? ⟨g, 3, none⟩ = some (.int .i64 1) ∧ w'.cell? ⟨g, 5, none⟩ = some (.int .u8 s) ∧ w'.cell? ⟨g, 6, none⟩ = some (.int .u8 h) ∧ w'.cell? ⟨g, 7, none⟩ = some (.slice A 0 c)) (go_keep) (fail)
  go_wp2
  refine bodyPost_ret (v := .agg #[.int .u8 a, .int .u8 3, .int .u8 n, .int .u8 s, .int .u8 h, .string ⟨#[]⟩]) (by simp [results, Try.results24, go_sem]) rfl ⟨rfl, ?_⟩
  go_grown

set_option maxHeartbeats 1600000 in
theorem refm_next_data (w : World) (g : Nat) (a n t st ep s h ms : Int) (v : Value) (ad : Addr) (c k : Nat) (b : ByteArray) (hk : k + 1 ≤ c) (hc : c ≤ maxLen) (had : w.cell? ad = some (.string b))
    (hg : w.heap[g]? = some (.cells #[.int .u8 a, .int .u8 n, .int .i64 t, .int .i64 1, .int .i64 ep, .int .u8 s, .int .u8 h, .slice (some ad) (k + 1) c, .int .i64 ms] 51 (0, 0))) :
    Calls Try.prog 24 #[.pointer (some ⟨g, 0, none⟩)] w fun e w' => e = .returned (.agg #[.int .u8 a, .int .u8 2, .int .u8 n, .int .u8 s, .int .u8 h, .string b]) ∧ Below w.heap.size w w' := by
  have hadlt := World.block_lt_of_cell? w ad had
  have ka1 : ¬ (w.heap.size = ad.block) := by omega
  have ka2 : ¬ (w.heap.size + 1 = ad.block) := by omega
  have ka3 : ¬ (ad.block = w.heap.size) := by omega
  have ka4 : ¬ (ad.block = w.heap.size + 1) := by omega
  unfold maxLen at hc
  obtain ⟨h0, h1, h2, h3, h4, h5, h6, h7, h8⟩ := blk9 hg
  have hne2 := World.new_ne w ⟨g, 2, none⟩ h2
  simp only [] at hne2
  have hlt := blk_lt hg
  have hne3 : ¬ (w.heap.size + 1 = g) := by omega
  have hne4 : ¬ (g = w.heap.size + 1) := by omega
  have hne5 : ¬ (g = w.heap.size) := by omega
  clear hg h2 h4 h8
  go_enter Try.func24, Try.ntmps24
  go_wp2_with fail
  go_region_held3 (fun w' => w'.cell? ⟨g, 0, none⟩ = some (.int .u8 a) ∧ w'.cell? ⟨g, 1, none⟩ = some (.int .u8 n) ∧ w'.cell? ⟨g, 3, none⟩ = some (.int .i64 1) ∧ w'.cell? ⟨g, 5, none⟩ = some (.int .u8 s) ∧ w'.cell? ⟨g, 6, none⟩ = some (.int .u8 h) ∧ w'.cell? ⟨g, 7, none⟩ = some (.slice (some ad) (k + 1) c) ∧ w'.cell? ad = some (.string b)) (go_keep) (fail)
  go_wp2
  refine bodyPost_ret (v := .agg #[.int .u8 a, .int .u8 2, .int .u8 n, .int .u8 s, .int .u8 h, .string b]) (by simp [results, Try.results24, go_sem]) rfl ⟨rfl, ?_⟩
  go_grown

theorem refm_next (w : World) (B g : Nat) (M : MS) (h : RefMAt w B g M) :
    Calls Try.prog 24 #[.pointer (some ⟨g, 0, none⟩)] w fun e w' => e = .returned (.agg #[.int .u8 M.nextF.addr, .int .u8 M.nextF.kind, .int .u8 M.nextF.sess, .int .u8 M.nextF.seq, .int .u8 M.nextF.ack, .string ⟨M.nextF.b.toArray⟩]) ∧ Below w.heap.size w w' := by
  obtain ⟨v, hg, hq⟩ := h.ex
  by_cases hst : M.state = 1
  · rw [hst] at hg
    rcases hM : M.queue with _ | ⟨b, q⟩
    · have e : M.nextF = ⟨M.addr, 3, M.num, M.sends, M.hears, []⟩ := by unfold MS.nextF; rw [if_neg (by omega), hM]
      rw [e]
      rw [hM] at hq
      obtain ⟨A, c, rfl⟩ := hq.slice
      exact refm_next_poll w g _ _ _ 0 _ _ _ _ (.slice A 0 c) A c hg
    · have e : M.nextF = ⟨M.addr, 2, M.num, M.sends, M.hears, b⟩ := by unfold MS.nextF; rw [if_neg (by omega), hM]
      rw [e]
      rw [hM] at hq
      obtain ⟨ad, c, rfl, hc, _, h1, h2⟩ := OffRow.head1 hq
      exact refm_next_data w g _ _ _ 0 _ _ _ _ (.slice (some ad) (q.length + 1) c) ad c q.length _ h1 h2 hc hg
  · have e : M.nextF = ⟨M.addr, 1, M.num, 0, 0, []⟩ := by unfold MS.nextF; rw [if_pos hst]
    rw [e]
    exact refm_next_closed w g _ _ _ _ _ _ _ _ v hst hg
end Go.Proofs.Ytdgbmiobfehpdaa
