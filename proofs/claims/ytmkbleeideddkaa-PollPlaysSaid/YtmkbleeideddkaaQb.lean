/- The reference: find, late, Dead, Alive, Is. -/
import Derived.Test.YtmkbleeideddkaaQa
import Derived.LoopTactic
set_option linter.unusedVariables false
set_option linter.unusedSimpArgs false
namespace Go.Proofs.Ytmkbleeideddkaa
open Go.RowKit

set_option maxHeartbeats 2000000 in
theorem rfind_any (w : World) (B h : Nat) (v : Value) (P : PS) (y : Int) (r : RefIn w B h v P) :
    Calls Try.prog 23 #[.pointer (some ⟨h, 0, none⟩), .int .u8 y] w fun e w' => e = .returned (findV P y) ∧ w' = w := by
  obtain ⟨A, c, rfl⟩ := own_slice r.row
  have h40 := r.n40
  have g0 := blk_cell r.blk 0
  simp at g0
  have H := Lib.hid r
  clear r
  go_enter Try.func23, Try.ntmps23
  go_wp2_with fail
  go_loopw [5] (fun i wr => ∃ k : Nat, k ≤ P.row.length ∧ i = .int .i64 k ∧ wr = w ∧ ∀ j q, j < k → P.row[j]? = some q → q.addr ≠ y) (fun i _ => P.row.length - (intOf i).toNat)
  case atStart => exact ⟨0, Nat.zero_le _, rfl, rfl, fun j q hj => by omega⟩
  case round =>
    obtain ⟨k, hk, rfl, rfl, hne⟩ := hrel
    have HNE := Lib.hid hne
    clear hne
    by_cases hlt : k < P.row.length
    · obtain ⟨gr, c', p, hp, he, hc1, hc2, q0, q1, q2, hfz, hgh⟩ := H.out.at hlt
      cases he
      have HP := Lib.hid hp
      clear hp hfz
      by_cases heq : p.addr = y
      · have hb : (p.addr == y) = true := by simpa using heq
        have HEQ := Lib.hid heq
        clear heq
        go_wp2_with fail
        go_ret
        refine ⟨?_, rfl⟩
        have hf := findF_at HP.out HEQ.out HNE.out
        unfold findV
        rw [hf]
        rfl
      · have hb : (p.addr == y) = false := by simpa using heq
        have HEQ := Lib.hid heq
        clear heq
        go_wp2_with fail
        go_roundw
        case rel =>
          refine ⟨k + 1, by omega, by go_num, trivial, fun j q hj hq => ?_⟩
          by_cases hjk : j = k
          · subst hjk
            rw [HP.out] at hq
            cases hq
            exact HEQ.out
          · exact HNE.out j q (by omega) hq
        case measure => simp [intOf]; omega
    · obtain rfl : k = P.row.length := by omega
      go_wp2_with fail
      go_ret
      refine ⟨?_, rfl⟩
      have hf := findF_all HNE.out
      unfold findV
      rw [hf]
      rfl

def lateB (since now : Int) : Bool := decide (since ≤ now) && decide (20 ≤ now - since)
theorem due_late (p : PP) (now : Int) : dueB p now = (p.dead && lateB p.since now) := by unfold dueB lateB; rw [Bool.and_assoc]
set_option maxHeartbeats 1000000 in
theorem late_any (w : World) (since now : Int) (hp : I64 since) (hn : I64 now) : Calls Try.prog 25 #[.int .i64 since, .int .i64 now] w fun e w' => e = .returned (.bool (lateB since now)) ∧ w' = w := by
  unfold I64 at hp hn
  by_cases hlt : now < since
  · have hb : lateB since now = false := by unfold lateB; simp; omega
    rw [hb]
    clear hb
    go_enter Try.func25, Try.ntmps25
    go_wp2_with fail
    go_ret
    exact ⟨rfl, rfl⟩
  · have hsub : IntKind.u64.wrap (IntKind.u64.wrap now - IntKind.u64.wrap since) = now - since := by
      rw [wrapU, wrapU, wrapU]
      omega
    have hb : lateB since now = decide (20 ≤ now - since) := by unfold lateB; simp; omega
    rw [hb]
    have hle : ¬ now < since := hlt
    clear hb
    by_cases h20 : 20 ≤ now - since
    · have hd : decide (20 ≤ now - since) = true := by simpa using h20
      go_enter Try.func25, Try.ntmps25
      go_wp2_with fail
      go_ret
      exact ⟨by simp_all, rfl⟩
    · have hd : decide (20 ≤ now - since) = false := by simpa using h20
      go_enter Try.func25, Try.ntmps25
      go_wp2_with fail
      go_ret
      exact ⟨by simp_all, rfl⟩

def RTurnEnd (w : World) (B h : Nat) (v : Value) (n : Int) (P : PS) (e : Ending) (w' : World) : Prop := e = .returned (.int .i64 n) ∧ Kept B [40, 42] w w' ∧ RefIn w' B h v P

set_option maxHeartbeats 2000000 in
theorem ref_dead (w : World) (B h : Nat) (v : Value) (P P' : PS) (y now n : Int) (r : RefIn w B h v P) (hnow : I64 now) (hF : P.dead y now = (n, P')) :
    Calls Try.prog 16 #[.pointer (some ⟨h, 0, none⟩), .int .u8 y, .int .i64 now] w (RTurnEnd w B h v n P') := by
  obtain ⟨A, c, rfl⟩ := own_slice r.row
  have h40 := r.n40
  have H := Lib.hid r
  clear r
  unfold PS.dead at hF
  cases hf : findF P.row y with
  | none =>
    rw [hf] at hF
    cases hF
    have HF := Lib.hid hf
    clear hf
    go_enter Try.func16, Try.ntmps16
    go_wp2_with fail
    refine (rfind_any _ B h _ P y H.out).mono ?_
    rintro e w2 ⟨rfl, rfl⟩
    unfold findV
    rw [HF.out]
    go_wp2_with fail
    go_ret
    exact ⟨rfl, Kept.refl _ _ _, H.out⟩
  | some i =>
    rw [hf] at hF
    cases hF
    have hi := findF_lt hf
    have HF := Lib.hid hf
    obtain ⟨gr, c', p, hp, he, hc1, hc2, q0, q1, q2, hfz, hgh⟩ := H.out.at hi
    cases he
    have f1 := hfz (i * 3 + 1)
    have s1 := H.out.store (rows := P.row.modify i fun p => { p with dead := true }) (u := .bool true) (j := i * 3 + 1) rfl (cells3_dead _ _ _) (by simp) (sb_modify H.out.sb fun p hp => hp)
    have HS1 := Lib.hid s1
    obtain ⟨gr2, c2, p2, hp2, he2, hcc1, hcc2, t0, t1, t2, hfz2, hgh2⟩ := s1.2.at (i := i) (by simpa using hi)
    simp only [List.length_modify] at he2
    cases he2
    have f2 := hfz2 (i * 3 + 2)
    have u0 := blk_cell s1.2.blk 0
    have g0 := blk_cell H.out.blk 0
    simp at u0 g0
    have s2 := s1.2.store (rows := P.row.modify i fun p => { p with dead := true, since := now }) (u := .int .i64 now) (j := i * 3 + 2) (by simp) (by rw [cells3_since, modify_twice]) (by simp) (sb_modify H.out.sb fun p hp => hnow)
    have HS2 := Lib.hid s2
    clear hf hp hp2 s1 s2 hfz hfz2
    go_enter Try.func16, Try.ntmps16
    go_wp2_with fail
    refine (rfind_any _ B h _ P y H.out).mono ?_
    rintro e w2 ⟨rfl, rfl⟩
    unfold findV
    rw [HF.out]
    simp only []
    go_wp2_with fail
    go_ret
    exact ⟨rfl, HS1.out.1.trans HS2.out.1, HS2.out.2⟩

set_option maxHeartbeats 2000000 in
theorem ref_alive (w : World) (B h : Nat) (v : Value) (P P' : PS) (y n : Int) (r : RefIn w B h v P) (hF : P.alive y = (n, P')) :
    Calls Try.prog 18 #[.pointer (some ⟨h, 0, none⟩), .int .u8 y] w (RTurnEnd w B h v n P') := by
  obtain ⟨A, c, rfl⟩ := own_slice r.row
  have h40 := r.n40
  have H := Lib.hid r
  clear r
  unfold PS.alive at hF
  cases hf : findF P.row y with
  | none =>
    rw [hf] at hF
    cases hF
    have HF := Lib.hid hf
    clear hf
    go_enter Try.func18, Try.ntmps18
    go_wp2_with fail
    refine (rfind_any _ B h _ P y H.out).mono ?_
    rintro e w2 ⟨rfl, rfl⟩
    unfold findV
    rw [HF.out]
    go_wp2_with fail
    go_ret
    exact ⟨rfl, Kept.refl _ _ _, H.out⟩
  | some i =>
    rw [hf] at hF
    cases hF
    have hi := findF_lt hf
    have HF := Lib.hid hf
    obtain ⟨gr, c', p, hp, he, hc1, hc2, q0, q1, q2, hfz, hgh⟩ := H.out.at hi
    cases he
    have f1 := hfz (i * 3 + 1)
    have s1 := H.out.store (rows := P.row.modify i fun p => { p with dead := false }) (u := .bool false) (j := i * 3 + 1) rfl (cells3_dead _ _ _) (by simp) (sb_modify H.out.sb fun p hp => hp)
    have HS1 := Lib.hid s1
    have g0 := blk_cell H.out.blk 0
    simp at g0
    clear hf hp s1 hfz
    go_enter Try.func18, Try.ntmps18
    go_wp2_with fail
    refine (rfind_any _ B h _ P y H.out).mono ?_
    rintro e w2 ⟨rfl, rfl⟩
    unfold findV
    rw [HF.out]
    simp only []
    go_wp2_with fail
    go_ret
    exact ⟨rfl, HS1.out.1, HS1.out.2⟩

set_option maxHeartbeats 2000000 in
theorem ref_is (w : World) (B h : Nat) (v : Value) (P : PS) (y : Int) (r : RefIn w B h v P) :
    Calls Try.prog 20 #[.pointer (some ⟨h, 0, none⟩), .int .u8 y] w fun e w' => e = .returned (.bool (P.is y)) ∧ w' = w := by
  obtain ⟨A, c, rfl⟩ := own_slice r.row
  have h40 := r.n40
  have H := Lib.hid r
  clear r
  cases hf : findF P.row y with
  | none =>
    have his : P.is y = false := by unfold PS.is; rw [hf]
    rw [his]
    have HF := Lib.hid hf
    clear hf his
    go_enter Try.func20, Try.ntmps20
    go_wp2_with fail
    refine (rfind_any _ B h _ P y H.out).mono ?_
    rintro e w2 ⟨rfl, rfl⟩
    unfold findV
    rw [HF.out]
    go_wp2_with fail
    go_ret
    exact ⟨rfl, rfl⟩
  | some i =>
    have hi := findF_lt hf
    obtain ⟨gr, c', p, hp, he, hc1, hc2, q0, q1, q2, hfz, hgh⟩ := H.out.at hi
    cases he
    have his : P.is y = !p.dead := by unfold PS.is; rw [hf]; simp [hp]
    rw [his]
    have HF := Lib.hid hf
    have g0 := blk_cell H.out.blk 0
    simp at g0
    clear hf his hp hfz
    go_enter Try.func20, Try.ntmps20
    go_wp2_with fail
    refine (rfind_any _ B h _ P y H.out).mono ?_
    rintro e w2 ⟨rfl, rfl⟩
    unfold findV
    rw [HF.out]
    simp only []
    go_wp2_with fail
    go_ret
    exact ⟨rfl, rfl⟩
end Go.Proofs.Ytmkbleeideddkaa
