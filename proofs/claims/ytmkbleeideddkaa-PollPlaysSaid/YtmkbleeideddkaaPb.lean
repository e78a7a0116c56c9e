/- find: slices.IndexFunc over a closure. -/
import Derived.Test.YtmkbleeideddkaaPa
import Derived.LoopTactic
import Derived.Deep.DeepCutAuto
set_option linter.unusedVariables false
set_option linter.unusedSimpArgs false
namespace Go.Proofs.Ytmkbleeideddkaa
open Go.RowKit

set_option maxHeartbeats 1000000 in
theorem find1_any (w : World) (a bx : Nat) (x y : Int) (h0 : w.cell? ⟨a, 0, none⟩ = some (.int .u8 x)) (h1 : w.cell? ⟨bx, 0, none⟩ = some (.int .u8 y)) (b : Bool) (hb : (x == y) = b) :
    Calls Try.prog 30 #[.pointer (some ⟨a, 0, none⟩), .pointer (some ⟨bx, 0, none⟩)] w fun e w' => e = .returned (.bool b) ∧ ∃ n, w' = w.drewN n := by
  go_enter Try.func30, Try.ntmps30
  go_wp2
  go_quiet (fail)
  go_wp2
  go_ret
  exact ⟨rfl, _, rfl⟩

def findV (P : PS) (y : Int) : Value := .int .i64 (match findF P.row y with | none => -1 | some i => (i : Int))
def IndexEnd (w : World) (P : PS) (y : Int) (e : Ending) (w' : World) : Prop := e = .returned (findV P y) ∧ ∃ n, w' = w.drewN n

set_option maxHeartbeats 2000000 in
theorem index_any (w : World) (B g : Nat) (v : Value) (us : List Nat) (P : PS) (bx : Nat) (y : Int) (h : PollIn w B g v us P) (hx : w.cell? ⟨bx, 0, none⟩ = some (.int .u8 y)) :
    Calls Try.prog 29 #[v, .func (.func 30) #[] #[.pointer (some ⟨bx, 0, none⟩)]] w (IndexEnd w P y) := by
  obtain ⟨A, c, rfl⟩ := own_slice h.row
  have h40 := h.n40
  have H := Lib.hid h
  clear h
  go_enter Try.func29, Try.ntmps29
  go_wp2_with fail
  go_loopw [8] (fun i wr => ∃ k : Nat, k ≤ P.row.length ∧ i = .int .i64 k ∧ (∃ m, wr = w.drewN m) ∧ ∀ j q, j < k → P.row[j]? = some q → q.addr ≠ y) (fun i _ => P.row.length - (intOf i).toNat)
  case atStart => exact ⟨0, Nat.zero_le _, rfl, ⟨0, rfl⟩, fun j q hj => by omega⟩
  case round =>
    obtain ⟨k, hk, rfl, ⟨m, rfl⟩, hne⟩ := hrel
    have HNE := Lib.hid hne
    clear hne
    by_cases hlt : k < P.row.length
    · obtain ⟨a, gr, c', p, ha, hp, hpe, he, hc1, hc2, hcell⟩ := H.out.at hlt
      cases he
      have p0 := blk_cell hpe 0
      simp at p0
      have HP := Lib.hid hp
      have HPE := Lib.hid hpe
      clear hp hpe ha
      have q0 : (w.drewN m).cell? ⟨a, 0, none⟩ = some (.int .u8 p.addr) := p0
      have q1 : (w.drewN m).cell? ⟨bx, 0, none⟩ = some (.int .u8 y) := hx
      have q2 : (w.drewN m).cell? ⟨gr, k, none⟩ = some (.pointer (some ⟨a, 0, none⟩)) := hcell
      by_cases heq : p.addr = y
      · have hb : (p.addr == y) = true := by simpa using heq
        have HEQ := Lib.hid heq
        clear heq
        go_wp2_with fail
        refine (find1_any _ a bx p.addr y q0 q1 true hb).mono ?_
        rintro e w2 ⟨rfl, n, rfl⟩
        clear hb
        go_wp2_with fail
        go_ret
        refine ⟨?_, m + n, rfl⟩
        have hf := findF_at HP.out HEQ.out HNE.out
        unfold findV
        rw [hf]
        rfl
      · have hb : (p.addr == y) = false := by simpa using heq
        have HEQ := Lib.hid heq
        clear heq
        go_wp2_with fail
        refine (find1_any _ a bx p.addr y q0 q1 false hb).mono ?_
        rintro e w2 ⟨rfl, n, rfl⟩
        clear hb
        go_wp2_with fail
        go_roundw
        case rel =>
          refine ⟨k + 1, by omega, by go_num, ⟨m + n, rfl⟩, fun j q hj hq => ?_⟩
          by_cases hjk : j = k
          · subst hjk
            rw [HP.out] at hq
            cases hq
            exact HEQ.out
          · exact HNE.out j q (by omega) hq
        case measure => simp [intOf]; omega
    · obtain rfl : k = P.row.length := by omega
      go_wp2_with fail
      go_ret
      refine ⟨?_, m, rfl⟩
      have hf := findF_all HNE.out
      unfold findV
      rw [hf]
      rfl

/-- What find hands back. -/
def ptrF (us : List Nat) : Option Nat → Value
  | none => .pointer none
  | some i => .pointer (some ⟨us.getD i 0, 0, none⟩)
set_option maxHeartbeats 2000000 in
theorem find_any (w : World) (B g : Nat) (v : Value) (us : List Nat) (P : PS) (y : Int) (h : PollIn w B g v us P) :
    Calls Try.prog 22 #[.pointer (some ⟨g, 0, none⟩), .int .u8 y] w fun e w' => e = .returned (ptrF us (findF P.row y)) ∧ Below w.heap.size w w' := by
  have hmf : ∀ (fn : Fn) (first cap : Array Value) (w : World), (Instr.makeFunc fn first cap).run Try.prog w = .ok (.func fn first cap) w := fun _ _ _ _ => rfl
  obtain ⟨A, c, rfl⟩ := own_slice h.row
  have h40 := h.n40
  have hgl := h.lt
  have g0 := blk_cell h.blk 0
  simp at g0
  have H := Lib.hid h
  clear h
  have H2 := Lib.hid (H.out.below ((Below.refl _ _).alloc (Nat.le_refl _) (.cells #[.int .u8 y] 5)))
  go_enter Try.func22, Try.ntmps22
  go_wp2_with fail
  refine (index_any _ B g _ us P w.heap.size y H2.out (blk_cell (blk_new w _) 0)).mono ?_
  rintro e w2 ⟨rfl, n, rfl⟩
  have hbl : Below w.heap.size w (w.alloc (.cells #[.int .u8 y] 5)) := (Below.refl _ _).alloc (Nat.le_refl _) _
  have HBL := Lib.hid hbl
  clear hbl
  unfold findV
  cases hf : findF P.row y with
  | none =>
    have HF := Lib.hid hf
    clear hf
    go_wp2_with fail
    go_ret
    exact ⟨by rw [HF.out]; rfl, below_drewN HBL.out _⟩
  | some i =>
    have hi := findF_lt hf
    obtain ⟨a, gr, c', p, ha, hp, hpe, he, hc1, hc2, hcell⟩ := H2.out.at hi
    cases he
    have hud : us.getD i 0 = a := by rw [List.getD, ha]; rfl
    have HUD := Lib.hid hud
    have HF := Lib.hid hf
    clear hf hud ha hp hpe
    simp only []
    go_wp2_with fail
    go_ret
    refine ⟨?_, below_drewN HBL.out _⟩
    rw [HF.out]
    unfold ptrF
    simp only [HUD.out]
    rfl
end Go.Proofs.Ytmkbleeideddkaa
