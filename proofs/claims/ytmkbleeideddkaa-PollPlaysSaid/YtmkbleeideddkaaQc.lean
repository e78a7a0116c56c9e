/- The reference: Next. -/
import Derived.Test.YtmkbleeideddkaaQb
import Derived.Deep.DeepCutAuto
import Derived.BigQuiet
set_option linter.unusedVariables false
set_option linter.unusedSimpArgs false
namespace Go.Proofs.Ytmkbleeideddkaa
open Go.RowKit

theorem drewN_ex (w : World) (m n : Nat) : ∃ k, (w.drewN m).drewN n = w.drewN k := ⟨m + n, World.drewN_drewN ..⟩
/-- The place that the search holds. -/
def bestI : Option Nat → Value
  | none => .int .i64 (-1)
  | some i => .int .i64 (i : Int)
def RNextEnd (w : World) (B h : Nat) (v : Value) (a : Int) (b : Bool) (P : PS) (e : Ending) (w' : World) : Prop := e = .returned (.tuple #[.int .u8 a, .bool b]) ∧ Kept B [40, 42] w w' ∧ RefIn w' B h v P

set_option maxHeartbeats 4000000 in
set_option maxRecDepth 100000 in
theorem ref_next (w : World) (B h : Nat) (v : Value) (P P' : PS) (now a : Int) (b : Bool) (r : RefIn w B h v P) (hnow : I64 now) (hF : P.next now = (a, b, P')) :
    Calls Try.prog 14 #[.pointer (some ⟨h, 0, none⟩), .int .i64 now] w (RNextEnd w B h v a b P') := by
  obtain ⟨A, c, rfl⟩ := own_slice r.row
  have h40 := r.n40
  have g0 := blk_cell r.blk 0
  simp at g0
  have H := Lib.hid r
  have HF := Lib.hid hF
  have HNOW := Lib.hid hnow
  clear r hF hnow
  go_enter Try.func14, Try.ntmps14
  go_wp2_with fail
  go_loopw [6, 7] (fun f i wr => ∃ k : Nat, k ≤ P.row.length ∧ i = .int .i64 k ∧ f = bestI (bestF P.row now k) ∧ ∃ m, wr = w.drewN m) (fun _ i _ => P.row.length - (intOf i).toNat)
  case atStart => exact ⟨0, Nat.zero_le _, rfl, rfl, 0, rfl⟩
  case round =>
    obtain ⟨k, hk, rfl, rfl, m, rfl⟩ := hrel
    by_cases hlt : k < P.row.length
    · obtain ⟨gr, c', p, hp, he, hc1, hc2, q0, q1, q2, hfz, hgh⟩ := H.out.at hlt
      cases he
      have hbs := best_succ P.row now k p hp
      have hpsb : I64 p.since := H.out.sb p (List.mem_of_getElem? hp)
      obtain ⟨lb, hlb⟩ : ∃ lb, lateB p.since now = lb := ⟨_, rfl⟩
      obtain ⟨pd, hpd⟩ : ∃ pd, p.dead = pd := ⟨_, rfl⟩
      rw [due_late, hlb, hpd] at hbs
      rw [hpd] at q1
      have HBS := Lib.hid hbs
      have HPS := Lib.hid hpsb
      have HLB := Lib.hid hlb
      obtain ⟨bf, hbf⟩ : ∃ bf, bestF P.row now k = bf := ⟨_, rfl⟩
      have HBF := Lib.hid hbf
      rw [hbf]
      have q0' : (w.drewN m).cell? ⟨gr, k * 3, none⟩ = some (.int .u8 p.addr) := q0
      have q1' : (w.drewN m).cell? ⟨gr, k * 3 + 1, none⟩ = some (.bool pd) := q1
      have q2' : (w.drewN m).cell? ⟨gr, k * 3 + 2, none⟩ = some (.int .i64 p.since) := q2
      have g0' : (w.drewN m).cell? ⟨h, 0, none⟩ = some (.slice (some ⟨gr, 0, none⟩) P.row.length c) := g0
      clear hbs hpsb hlb hpd hbf hp hfz
      go_wp2_with fail
      refine (late_any _ p.since now HPS.out HNOW.out).mono ?_
      rw [HLB.out]
      rintro e w2 ⟨rfl, rfl⟩
      obtain ⟨rs, hrs⟩ : ∃ rs, (pd && lb && betterB P.row p bf) = rs := ⟨_, rfl⟩
      have HRS := Lib.hid hrs
      clear hrs
      go_upto_region 6 with fail
      go_cut [63] (fun s w' => s = .bool rs ∧ ∃ m, w' = w.drewN m)
      case first =>
        cases pd with
        | false =>
          obtain rfl : rs = false := HRS.out.symm
          cases bf with
          | none =>
            unfold bestI
            go_quiet (fail)
            go_wp2_with fail
            go_meet
            case rel => exact ⟨rfl, drewN_ex _ _ _⟩
          | some bi =>
            unfold bestI
            go_quiet (fail)
            go_wp2_with fail
            go_meet
            case rel => exact ⟨rfl, drewN_ex _ _ _⟩
        | true =>
          cases lb with
          | false =>
            obtain rfl : rs = false := HRS.out.symm
            cases bf with
            | none =>
              unfold bestI
              go_quiet (fail)
              go_wp2_with fail
              go_meet
              case rel => exact ⟨rfl, drewN_ex _ _ _⟩
            | some bi =>
              unfold bestI
              go_quiet (fail)
              go_wp2_with fail
              go_meet
              case rel => exact ⟨rfl, drewN_ex _ _ _⟩
          | true =>
            cases bf with
            | none =>
              obtain rfl : rs = true := HRS.out.symm
              unfold bestI
              go_quiet (fail)
              go_wp2_with fail
              go_meet
              case rel => exact ⟨rfl, drewN_ex _ _ _⟩
            | some bi =>
              obtain ⟨hb1, hb2⟩ := best_lt P.row now k bi HBF.out
              obtain ⟨gr2, c2', pb, hpb, he2, -, -, pb0, pb1, pb2, hfz2, hgh2⟩ := H.out.at hb2
              cases he2
              have pb2' : (w.drewN m).cell? ⟨gr, bi * 3 + 2, none⟩ = some (.int .i64 pb.since) := pb2
              have hrs : rs = decide (p.since < pb.since) := by
                have := HRS.out
                simp only [betterB, sinceAt_of hpb, Bool.true_and] at this
                exact this.symm
              clear hpb pb0 pb1 hfz2
              by_cases hlt2 : p.since < pb.since
              · have hd : decide (p.since < pb.since) = true := by simpa using hlt2
                obtain rfl : rs = true := hrs.trans hd
                clear hlt2 hrs
                unfold bestI
                go_quiet (fail)
                go_wp2_with fail
                go_meet
                case rel => exact ⟨rfl, drewN_ex _ _ _⟩
              · have hd : decide (p.since < pb.since) = false := by simpa using hlt2
                obtain rfl : rs = false := hrs.trans hd
                clear hlt2 hrs
                unfold bestI
                go_quiet (fail)
                go_wp2_with fail
                go_meet
                case rel => exact ⟨rfl, drewN_ex _ _ _⟩
      case rest =>
        obtain ⟨rfl, m2, rfl⟩ := hcut
        have hnx : bestF P.row now (k + 1) = if rs = true then some k else bf := by rw [HBS.out, HBF.out, HRS.out]
        have HNX := Lib.hid hnx
        clear hnx q0 q1 q2 q0' q1' q2' g0'
        cases rs with
        | true =>
          go_wp2_with fail
          go_roundw
          case rel => exact ⟨k + 1, by omega, by go_num, by rw [HNX.out, if_pos rfl]; rfl, m2, rfl⟩
          case measure => simp [intOf]; omega
        | false =>
          go_wp2_with fail
          go_roundw
          case rel => exact ⟨k + 1, by omega, by go_num, by rw [HNX.out, if_neg (by simp)], m2, rfl⟩
          case measure => simp [intOf]; omega
    · obtain rfl : k = P.row.length := by omega
      have HFF := HF.out
      unfold PS.next at HFF
      have g0m : (w.drewN m).cell? ⟨h, 0, none⟩ = some (.slice A P.row.length c) := g0
      cases hbf : bestF P.row now P.row.length with
      | some bi =>
        rw [hbf] at HFF
        simp only [Prod.mk.injEq] at HFF
        obtain ⟨rfl, rfl, rfl⟩ := HFF
        obtain ⟨hb1, hb2⟩ := best_lt P.row now _ bi hbf
        have HM := Lib.hid (H.out.below (below_drewN (Below.refl w.heap.size w) m))
        obtain ⟨gr, c', pb, hpb, he, hc1, hc2, q0, q1, q2, hfz, hgh⟩ := HM.out.at hb2
        cases he
        have f2 := hfz (bi * 3 + 2)
        have s2 := HM.out.store (rows := P.row.modify bi fun p => { p with since := now }) (u := .int .i64 now) (j := bi * 3 + 2) rfl (cells3_since _ _ _) (by simp) (sb_modify HM.out.sb fun p hp => HNOW.out)
        have HS2 := Lib.hid s2
        have had : addrAt P.row bi = pb.addr := addrAt_of hpb
        have HAD := Lib.hid had
        unfold bestI
        clear had hpb hbf HF s2 hfz
        go_wp2_with fail
        go_ret2
        exact ⟨by rw [HAD.out]; rfl, (Kept.of_below (below_drewN (Below.refl _ _) _)).trans HS2.out.1, HS2.out.2⟩
      | none =>
        rw [hbf] at HFF
        have HFF' := Lib.hid HFF
        unfold bestI
        clear hbf HF HFF
        have hgB := H.out.ge
        have hgl := H.out.lt
        have htn := H.out.tn
        go_wp2_with fail
        go_loopw [9] (fun i w' => ∃ j : Nat, j ≤ P.row.length ∧ i = .int .i64 ((j : Int) + 1) ∧ (∃ m, w' = w.drewN m) ∧ aliveF P.row P.turn P.row.length 0 = aliveF P.row P.turn (P.row.length - j) j) (fun i _ => P.row.length + 1 - (intOf i).toNat)
        case atStart => exact ⟨0, Nat.zero_le _, rfl, ⟨m, rfl⟩, rfl⟩
        case round =>
          obtain ⟨j, hj, rfl, ⟨m3, rfl⟩, hal⟩ := hrel
          have HAL := Lib.hid hal
          have g03 : (w.drewN m3).cell? ⟨h, 0, none⟩ = some (.slice A P.row.length c) := g0
          clear hal
          by_cases hjl : j < P.row.length
          · obtain ⟨at', hat, hatl⟩ : ∃ x : Nat, x = (P.turn + j) % P.row.length ∧ x < P.row.length := ⟨_, rfl, Nat.mod_lt _ (by omega)⟩
            obtain ⟨gr, c', pb, hpb, he, hc1, hc2, q0, q1, q2, hfz, hgh⟩ := H.out.at hatl
            cases he
            have q0' : (w.drewN m3).cell? ⟨gr, at' * 3, none⟩ = some (.int .u8 pb.addr) := q0
            have g1 : (w.drewN m3).cell? ⟨h, 1, none⟩ = some (.int .i64 ((P.turn : Int) - 1)) := blk_cell H.out.blk 1
            have g1b : w.cell? ⟨h, 1, none⟩ = some (.int .i64 ((P.turn : Int) - 1)) := blk_cell H.out.blk 1
            have gf1 : (w.drewN m3).frozen? ⟨h, 1, none⟩ = false := blk_frozen H.out.blk 1
            have hsum : IntKind.i64.wrap ((P.turn : Int) - 1 + ((j : Int) + 1)) = (P.turn : Int) + (j : Int) := by
              rw [IntWalk.i64_in _ (by omega)]
              omega
            have hmod : ((P.turn : Int) + (j : Int)).tmod (P.row.length : Int) = (at' : Int) := by
              rw [hat]
              have : ((P.turn : Int) + (j : Int)) = ((P.turn + j : Nat) : Int) := by omega
              rw [this]
              exact Int.ofNat_tmod _ _
            have hmod2 : ((P.turn : Int) + (j : Int)) % (P.row.length : Int) = (at' : Int) := by
              rw [hat]
              have : ((P.turn : Int) + (j : Int)) = ((P.turn + j : Nat) : Int) := by omega
              rw [this]
              exact (Int.natCast_emod _ _).symm
            have hne : P.row ≠ [] := by intro h; rw [h] at hjl; simp at hjl
            have hstep : aliveF P.row P.turn (P.row.length - j) j = if pb.dead = false then some j else aliveF P.row P.turn (P.row.length - (j + 1)) (j + 1) := by
              obtain ⟨d, hd⟩ : ∃ d, P.row.length - j = d + 1 := ⟨P.row.length - j - 1, by omega⟩
              have hd2 : P.row.length - (j + 1) = d := by omega
              rw [hd, hd2]
              simp only [aliveF, ← hat, hpb, Option.map_some, Option.getD_some]
            have had : addrAt P.row at' = pb.addr := addrAt_of hpb
            have HAT := Lib.hid hat
            have HSTEP := Lib.hid hstep
            have HAD := Lib.hid had
            obtain ⟨dd, hdd⟩ : ∃ dd, pb.dead = dd := ⟨_, rfl⟩
            rw [hdd] at q1
            have q1' : (w.drewN m3).cell? ⟨gr, at' * 3 + 1, none⟩ = some (.bool dd) := q1
            have HDD := Lib.hid hdd
            clear hat hstep had hpb hdd hfz q0 q1 q2
            go_upto_region 14 with fail
            go_cut [10] (fun x w' => x = .int .i64 (at' : Int) ∧ ∃ m, w' = w.drewN m)
            case first =>
              go_quiet (fail)
              go_wp2_with fail
              go_meet
              case rel => exact ⟨rfl, drewN_ex _ _ _⟩
            case rest =>
            obtain ⟨rfl, m4, rfl⟩ := hcut
            have g04 : (w.drewN m4).cell? ⟨h, 0, none⟩ = some (.slice (some ⟨gr, 0, none⟩) P.row.length c) := g0
            have q04 : (w.drewN m4).cell? ⟨gr, at' * 3, none⟩ = some (.int .u8 pb.addr) := q0'
            have q14 : (w.drewN m4).cell? ⟨gr, at' * 3 + 1, none⟩ = some (.bool dd) := q1'
            have f14 : (w.drewN m4).frozen? ⟨h, 1, none⟩ = false := gf1
            have g14 : (w.drewN m4).cell? ⟨h, 1, none⟩ = some (.int .i64 ((P.turn : Int) - 1)) := g1
            clear hsum hmod hmod2 g03 q0' g1 gf1 q1' g1b
            cases dd with
            | false =>
              have hA : aliveF P.row P.turn P.row.length 0 = some j := by rw [HAL.out, HSTEP.out, if_pos HDD.out]
              have hff := HFF'.out
              rw [hA] at hff
              simp only [Prod.mk.injEq, ← HAT.out] at hff
              have HFF2 := Lib.hid hff
              clear hA hff HFF'
              go_wp2_with fail
              go_ret2
              obtain ⟨rfl, rfl, rfl⟩ := HFF2.out
              have HM := H.out.below (below_drewN (Below.refl w.heap.size w) m4)
              have hw := HM.turn (t := at') (by omega)
              exact ⟨by rw [HAD.out]; rfl, (Kept.of_below (below_drewN (Below.refl _ _) _)).trans hw.1, hw.2⟩
            | true =>
              go_wp2_with fail
              go_roundw
              case rel => exact ⟨j + 1, by omega, by go_num, ⟨_, rfl⟩, by rw [HAL.out, HSTEP.out, if_neg (by rw [HDD.out]; simp)]⟩
              case measure => simp [intOf]; omega
          · obtain rfl : j = P.row.length := by omega
            have hA : aliveF P.row P.turn P.row.length 0 = none := by rw [HAL.out, Nat.sub_self]; rfl
            have hff := HFF'.out
            rw [hA] at hff
            simp only [Prod.mk.injEq] at hff
            have HFF2 := Lib.hid hff
            clear hA hff HFF'
            go_wp2_with fail
            go_ret2
            obtain ⟨rfl, rfl, rfl⟩ := HFF2.out
            exact ⟨rfl, Kept.of_below (below_drewN (Below.refl _ _) _), H.out.below (below_drewN (Below.refl _ _) _)⟩
end Go.Proofs.Ytmkbleeideddkaa
