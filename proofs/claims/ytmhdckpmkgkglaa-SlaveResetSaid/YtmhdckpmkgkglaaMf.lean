/- Master.Next. -/
import Derived.Test.YtmhdckpmkgkglaaMe
set_option linter.unusedVariables false
set_option linter.unusedSimpArgs false
namespace Go.Proofs.Ytmhdckpmkgkglaa
open Go.RowKit

theorem resNext (tmps : Array Value) (W : World) (b : Nat) (c0 c1 c2 c3 c4 c5 : Value) (h2 : tmps.getD 2 undef = .pointer (some ⟨b, 0, none⟩))
    (hb : W.heap[b]? = some (.cells #[c0, c1, c2, c3, c4, c5] 29 (0, 0))) :
    (results Try.f26 tmps).run Try.prog W = .ok (.agg #[c0, c1, c2, c3, c4, c5]) W := by
  obtain ⟨a0, a1, a2, a3, a4, a5⟩ := blk6 hb
  simp only [Array.getD_eq_getD_getElem?] at h2
  simp [results, Try.results26, go_sem, h2, a0, a1, a2, a3, a4, a5]

set_option maxHeartbeats 800000 in
theorem next_closed (w : World) (g : Nat) (s h a n t st ep ms : Int) (v : Value) (hst : st ≠ 1)
    (hg : w.heap[g]? = some (.cells #[.int .u8 s, .int .u8 h, .int .u8 a, .int .u8 n, .int .i64 t, .int .i64 st, .int .i64 ep, v, .int .i64 ms] 77 (0, 0))) :
    Calls Try.prog 26 #[.pointer (some ⟨g, 0, none⟩)] w fun e w' => e = .returned (.agg #[.int .u8 a, .int .u8 1, .int .u8 n, .int .u8 0, .int .u8 0, .slice none 0 0]) ∧ Below w.heap.size w w' := by
  have T0 := TW.start hg 29 #[.int .u8 0, .int .u8 0, .int .u8 0, .int .u8 0, .int .u8 0, .slice none 0 0] #[.int .u8 a, .int .u8 1, .int .u8 n, .int .u8 0, .int .u8 0, .slice none 0 0]
  obtain ⟨h0, h1, h2, h3, h4, h5, h6, h7, h8⟩ := blk9 hg
  have hne2 := World.new_ne w ⟨g, 2, none⟩ h2
  simp only [] at hne2
  have hlt := blk_lt hg
  have hne3 : ¬ (w.heap.size + 1 = g) := by omega
  have hne4 : ¬ (g = w.heap.size + 1) := by omega
  have hne5 : ¬ (g = w.heap.size) := by omega
  have k1 : (st != 1) = true := by simpa using hst
  have HT := Lib.hid T0
  clear hg h0 h1 h4 h6 h7 h8 T0
  go_enter Try.func26, Try.ntmps26
  go_wp2_with fail
  go_region_held3 (fun w' => w'.cell? ⟨g, 2, none⟩ = some (.int .u8 a) ∧ w'.cell? ⟨g, 3, none⟩ = some (.int .u8 n) ∧ w'.cell? ⟨g, 5, none⟩ = some (.int .i64 st)) (go_keep) (fail)
  go_wp2
  refine bodyPost_ret (v := .agg #[.int .u8 a, .int .u8 1, .int .u8 n, .int .u8 0, .int .u8 0, .slice none 0 0]) (by simp [results, Try.results26, go_sem]) rfl ⟨rfl, ?_⟩
  go_grown

set_option maxHeartbeats 800000 in
theorem next_poll (w : World) (g : Nat) (s h a n t ep ms : Int) (A : Option Addr) (c : Nat)
    (hg : w.heap[g]? = some (.cells #[.int .u8 s, .int .u8 h, .int .u8 a, .int .u8 n, .int .i64 t, .int .i64 1, .int .i64 ep, .slice A 0 c, .int .i64 ms] 77 (0, 0))) :
    Calls Try.prog 26 #[.pointer (some ⟨g, 0, none⟩)] w fun e w' => e = .returned (.agg #[.int .u8 a, .int .u8 3, .int .u8 n, .int .u8 s, .int .u8 h, .slice none 0 0]) ∧ Below w.heap.size w w' := by
  have T0 := TW.start hg 29 #[.int .u8 0, .int .u8 0, .int .u8 0, .int .u8 0, .int .u8 0, .slice none 0 0] #[.int .u8 a, .int .u8 1, .int .u8 n, .int .u8 0, .int .u8 0, .slice none 0 0]
  obtain ⟨h0, h1, h2, h3, h4, h5, h6, h7, h8⟩ := blk9 hg
  have hne2 := World.new_ne w ⟨g, 2, none⟩ h2
  simp only [] at hne2
  have hlt := blk_lt hg
  have hne3 : ¬ (w.heap.size + 1 = g) := by omega
  have hne4 : ¬ (g = w.heap.size + 1) := by omega
  have hne5 : ¬ (g = w.heap.size) := by omega
  have HT := Lib.hid T0
  clear hg h4 h6 h8 T0
  go_enter Try.func26, Try.ntmps26
  go_wp2_with fail
  go_region_held3 (fun w' => w'.cell? ⟨g, 0, none⟩ = some (.int .u8 s) ∧ w'.cell? ⟨g, 1, none⟩ = some (.int .u8 h) ∧ w'.cell? ⟨g, 2, none⟩ = some (.int .u8 a) ∧ w'.cell? ⟨g, 3, none⟩ = some (.int .u8 n) ∧ w'.cell? ⟨g, 5, none⟩ = some (.int .i64 1) ∧ w'.cell? ⟨g, 7, none⟩ = some (.slice A 0 c)) (go_keep) (fail)
  go_wp2
  go_region_held3 (fun w' => w'.cell? ⟨g, 0, none⟩ = some (.int .u8 s) ∧ w'.cell? ⟨g, 1, none⟩ = some (.int .u8 h) ∧ w'.cell? ⟨g, 2, none⟩ = some (.int .u8 a) ∧ w'.cell? ⟨g, 3, none⟩ = some (.int .u8 n) ∧ w'.cell? ⟨g, 5, none⟩ = some (.int .i64 1) ∧ w'.cell? ⟨g, 7, none⟩ = some (.slice A 0 c)) (go_keep) (fail)
  go_wp2
  refine bodyPost_ret (v := .agg #[.int .u8 a, .int .u8 3, .int .u8 n, .int .u8 s, .int .u8 h, .slice none 0 0]) (by simp [results, Try.results26, go_sem]) rfl ⟨rfl, ?_⟩
  go_grown

set_option maxHeartbeats 1600000 in
theorem next_data (w : World) (g : Nat) (s h a n t ep ms : Int) (ad : Addr) (c k : Nat) (u : Value) (b : List UInt8) (hk : k + 1 ≤ c) (hc : c ≤ maxLen) (hu : ReadsB w u b)
    (had : w.cell? ad = some u) (hadg : ad.block ≠ g)
    (hg : w.heap[g]? = some (.cells #[.int .u8 s, .int .u8 h, .int .u8 a, .int .u8 n, .int .i64 t, .int .i64 1, .int .i64 ep, .slice (some ad) (k + 1) c, .int .i64 ms] 77 (0, 0))) :
    Calls Try.prog 26 #[.pointer (some ⟨g, 0, none⟩)] w fun e w' => ∃ v1, e = .returned (.agg #[.int .u8 a, .int .u8 2, .int .u8 n, .int .u8 s, .int .u8 h, v1]) ∧
      w'.ownsRow w.heap.size 5 1 v1 b.length (bytesV b) ∧ Below w.heap.size w w' := by
  have T0 := TW.start hg 29 #[.int .u8 0, .int .u8 0, .int .u8 0, .int .u8 0, .int .u8 0, .slice none 0 0] #[.int .u8 a, .int .u8 3, .int .u8 n, .int .u8 s, .int .u8 h, .slice none 0 0]
  have HU := Lib.hid hu
  obtain ⟨A, c', rfl, hu1, hu2, hu3, hu4⟩ := hu
  have hadlt := World.block_lt_of_cell? w ad had
  have ka1 : ¬ (w.heap.size = ad.block) := by omega
  have ka2 : ¬ (w.heap.size + 1 = ad.block) := by omega
  have ka3 : ¬ (ad.block = w.heap.size) := by omega
  have ka4 : ¬ (ad.block = w.heap.size + 1) := by omega
  unfold maxLen at hc
  obtain ⟨h0, h1, h2, h3, h4, h5, h6, h7, h8⟩ := blk9 hg
  have hne2 := World.new_ne w ⟨g, 2, none⟩ h2
  simp only [] at hne2
  have hlt := blk_lt hg
  have hne3 : ¬ (w.heap.size + 1 = g) := by omega
  have hne4 : ¬ (g = w.heap.size + 1) := by omega
  have hne5 : ¬ (g = w.heap.size) := by omega
  have HT := Lib.hid T0
  clear hg h4 h6 h8 T0 hu1 hu2 hu3 hu4
  go_enter Try.func26, Try.ntmps26
  go_wp2_with fail
  go_region_held3 (fun w' => w'.cell? ⟨g, 0, none⟩ = some (.int .u8 s) ∧ w'.cell? ⟨g, 1, none⟩ = some (.int .u8 h) ∧ w'.cell? ⟨g, 2, none⟩ = some (.int .u8 a) ∧ w'.cell? ⟨g, 3, none⟩ = some (.int .u8 n) ∧ w'.cell? ⟨g, 5, none⟩ = some (.int .i64 1) ∧ w'.cell? ⟨g, 7, none⟩ = some (.slice (some ad) (k + 1) c) ∧ w'.cell? ad = some (.slice A b.length c')) (go_keep) (fail)
  go_wp2
  go_region_held3 (fun w' => w'.cell? ⟨g, 0, none⟩ = some (.int .u8 s) ∧ w'.cell? ⟨g, 1, none⟩ = some (.int .u8 h) ∧ w'.cell? ⟨g, 2, none⟩ = some (.int .u8 a) ∧ w'.cell? ⟨g, 3, none⟩ = some (.int .u8 n) ∧ w'.cell? ⟨g, 5, none⟩ = some (.int .i64 1) ∧ w'.cell? ⟨g, 7, none⟩ = some (.slice (some ad) (k + 1) c) ∧ w'.cell? ad = some (.slice A b.length c')) (go_keep) (fail)
  go_wp2_with fail
  refine (clone_any _ (.slice A b.length c') b ?hh).mono ?_
  case hh => exact HU.out.below (by go_grown)
  rintro e w1 ⟨v1, rfl, hown, hb⟩
  obtain ⟨A1, c1, rfl⟩ := own_slice hown
  have T1 := HT.out.drew.drew.below hb
  obtain ⟨b0, b1, b2, b3, b4, b5⟩ := blk6 T1.hA
  obtain ⟨d0, d1, d2, d3, d4, d5⟩ := frz6 T1.hA
  obtain ⟨e0, e1, e2, e3, e4, e5⟩ := frz6 T1.hF
  obtain ⟨q0, q1, q2, q3, q4, q5⟩ := blk6 T1.hF
  have HT1 := Lib.hid T1
  have HO := Lib.hid hown
  have HB : Hid (Below w.heap.size w w1) := Below.trans (by go_grown) (hb.mono (by simp; omega))
  clear hb hown T1 HT h0 h1 h2 h3 h5 h7 had
  go_wp2
  have TF := ((((((((HT1.out.setA 1 (.int .u8 2)).setA 5 (.slice A1 b.length c1)).setF 0 (.int .u8 a)).setF 1 (.int .u8 2)).setF 2 (.int .u8 n)).setF 3 (.int .u8 s)).setF 4 (.int .u8 h)).setF 5 (.slice A1 b.length c1))
  simp only [List.setIfInBounds_toArray, List.set_cons_zero, List.set_cons_succ] at TF
  refine bodyPost_ret (resNext _ _ w.heap.size (.int .u8 a) (.int .u8 2) (.int .u8 n) (.int .u8 s) (.int .u8 h) (.slice A1 b.length c1) rfl TF.hF) rfl ⟨_, rfl, ?_, ?_⟩
  · refine own_lower (own_keep HO.out fun k hk => ?_) (by simp; omega)
    have := (own_lt HO.out k hk).1
    simp at this
    repeat (refine far1 (by simp; omega) ?_)
    rfl
  · repeat' (first | (with_reducible exact HB.out) | (with_reducible refine Below.setCell ?_ ?_ _) | (simp; done))

theorem QueueAt.head {w : World} {B : Nat} {v : Value} {b : List UInt8} {q : List (List UInt8)} (h : QueueAt w B v (b :: q)) :
    ∃ ad c u, v = .slice (some ad) (q.length + 1) c ∧ w.cell? ad = some u ∧ w.ownsRow B 5 1 u b.length (bytesV b) ∧ q.length + 1 ≤ c ∧ c ≤ maxLen := by
  obtain ⟨vs, hl, ho, hr⟩ := h
  rcases vs with _ | ⟨u, vs⟩
  · simp at hl
  · obtain ⟨ad, c, hv, hc, _, h1, h2⟩ := ho.head1
    exact ⟨ad, c, u, hv, hc, hr 0 u b rfl rfl, h1, h2⟩

theorem master_next (w : World) (B g : Nat) (M : MS) (h : MasterAt w B g M) :
    Calls Try.prog 26 #[.pointer (some ⟨g, 0, none⟩)] w fun e w' => ∃ v1, e = .returned (.agg #[.int .u8 M.nextF.addr, .int .u8 M.nextF.kind, .int .u8 M.nextF.sess, .int .u8 M.nextF.seq, .int .u8 M.nextF.ack, v1]) ∧
      w'.ownsRow w.heap.size 5 1 v1 M.nextF.b.length (bytesV M.nextF.b) ∧ Below w.heap.size w w' := by
  obtain ⟨v, hg, hq⟩ := h.ex
  by_cases hst : M.state = 1
  · rw [hst] at hg
    rcases hM : M.queue with _ | ⟨b, q⟩
    · have e : M.nextF = ⟨M.addr, 3, M.num, M.sends, M.hears, []⟩ := by unfold MS.nextF; rw [if_neg (by omega), hM]
      rw [e]
      rw [hM] at hq
      obtain ⟨vs, _, ho, _⟩ := hq
      obtain ⟨A, c, rfl⟩ := ho.slice
      refine (next_poll w g _ _ _ _ _ _ _ A c hg).mono ?_
      rintro e w' ⟨rfl, hb⟩
      exact ⟨_, rfl, World.ownsRow_nil _ _ _ _, hb⟩
    · have e : M.nextF = ⟨M.addr, 2, M.num, M.sends, M.hears, b⟩ := by unfold MS.nextF; rw [if_neg (by omega), hM]
      rw [e]
      rw [hM] at hq
      have hlen := h.ok.rows b (by rw [hM]; simp)
      have hq' := hq
      obtain ⟨ad, c, u, rfl, hc, ho, h1, h2⟩ := hq.head
      refine next_data w g _ _ _ _ _ _ _ ad c q.length u b h1 h2 (own_reads ho (by omega)) hc ?_ hg
      rintro rfl
      obtain ⟨vs, hvl, hoff, hrows⟩ := hq'
      exact hoff.ne hg (by decide) _ rfl rfl
  · have e : M.nextF = ⟨M.addr, 1, M.num, 0, 0, []⟩ := by unfold MS.nextF; rw [if_pos hst]
    rw [e]
    refine (next_closed w g _ _ _ _ _ _ _ _ v hst hg).mono ?_
    rintro e w' ⟨rfl, hb⟩
    exact ⟨_, rfl, World.ownsRow_nil _ _ _ _, hb⟩
end Go.Proofs.Ytmhdckpmkgkglaa
