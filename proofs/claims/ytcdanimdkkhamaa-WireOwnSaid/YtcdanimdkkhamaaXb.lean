/- The walk of lamplightlaw06.WireTells. -/
import Derived.Test.YtcdanimdkkhamaaXa
set_option linter.unusedVariables false
set_option linter.unusedSimpArgs false
namespace Go.Proofs.Ytcdanimdkkhamaa
open Go.RowKit

def WTells (w wr : World) (g h room k : Nat) : Prop :=
  Below w.heap.size w wr ∧ ∃ l, WireAt wr w.heap.size g room l ∧ RefAt wr w.heap.size h room l ∧ l.length ≤ 2 * k ∧ Small l

/-- The copied step. -/
def CoreW (w : World) (bx : Nat) (kd : Int) (f : FT) (bv FB : Value) (w' : World) : Prop :=
  Below w.heap.size w w' ∧ w'.heap[bx]? = some (.cells #[.int .i64 kd, bv, .int .i64 f.kind, .int .i64 f.n, .int .u8 f.x, FB] 32 (0, 0))
def CoreS (w : World) (bx : Nat) (kd : Int) (f : FT) (bv FB : Value) (b : List UInt8) (w' : World) : Prop :=
  CoreW w bx kd f bv FB w' ∧ w'.cell? ⟨bx, 1, none⟩ = some bv ∧ w'.cell? ⟨bx, 2, none⟩ = some (.int .i64 f.kind) ∧ w'.cell? ⟨bx, 3, none⟩ = some (.int .i64 f.n) ∧ w'.cell? ⟨bx, 4, none⟩ = some (.int .u8 f.x) ∧ w'.cell? ⟨bx, 5, none⟩ = some FB ∧
    (convert 28 9 bv).run Try.prog w' = .ok (.string ⟨b.toArray⟩) w'
theorem core_all {w w' : World} {bx : Nat} {kd : Int} {f : FT} {bv FB : Value} {b : List UInt8} (hr : ReadsB w bv b) (h : CoreW w bx kd f bv FB w') : CoreS w bx kd f bv FB b w' :=
  ⟨h, blk_cell h.2 1, blk_cell h.2 2, blk_cell h.2 3, blk_cell h.2 4, blk_cell h.2 5, conv_bytes _ _ _ (hr.below h.1)⟩
theorem core_kept {w w' w2 : World} {bx : Nat} {kd : Int} {f : FT} {bv FB : Value} (h : CoreW w bx kd f bv FB w') (k : Kept w.heap.size [57, 60, 50, 62] w' w2) : CoreW w bx kd f bv FB w2 :=
  ⟨h.1.trans (k.below h.1.size), k.blk h.2 (by decide)⟩
theorem core_step {w w' w2 : World} {bx : Nat} {kd : Int} {f : FT} {bv FB : Value} {b : List UInt8} {X : Prop} (hr : ReadsB w bv b) (h : CoreW w bx kd f bv FB w' ∧ X) (k : Kept w.heap.size [57, 60, 50, 62] w' w2) : CoreS w bx kd f bv FB b w2 :=
  core_all hr (core_kept h.1 k)
/-- The same, with both wires as they were. -/
def Core11 (w : World) (g h room : Nat) (l : List (List UInt8 × Nat)) (bx : Nat) (kd : Int) (f : FT) (bv FB : Value) (w' : World) : Prop := CoreW w bx kd f bv FB w' ∧ WireAt w' w.heap.size g room l ∧ RefAt w' w.heap.size h room l
theorem core11_all {w w' : World} {g h room : Nat} {l : List (List UInt8 × Nat)} {bx : Nat} {kd : Int} {f : FT} {bv FB : Value} {b : List UInt8} (hr : ReadsB w bv b) (hc : Core11 w g h room l bx kd f bv FB w') :
    Core11 w g h room l bx kd f bv FB w' ∧ w'.cell? ⟨bx, 1, none⟩ = some bv ∧ w'.cell? ⟨bx, 2, none⟩ = some (.int .i64 f.kind) ∧ w'.cell? ⟨bx, 3, none⟩ = some (.int .i64 f.n) ∧ w'.cell? ⟨bx, 4, none⟩ = some (.int .u8 f.x) ∧ w'.cell? ⟨bx, 5, none⟩ = some FB ∧
      (convert 28 9 bv).run Try.prog w' = .ok (.string ⟨b.toArray⟩) w' := ⟨hc, (core_all hr hc.1).2⟩
theorem core11_step {w w' w2 : World} {g h room : Nat} {l : List (List UInt8 × Nat)} {bx : Nat} {kd : Int} {f : FT} {bv FB : Value} {b : List UInt8} {X : Prop} (hr : ReadsB w bv b) (hc : Core11 w g h room l bx kd f bv FB w' ∧ X) (k : Below w'.heap.size w' w2) :
    Core11 w g h room l bx kd f bv FB w2 ∧ w2.cell? ⟨bx, 1, none⟩ = some bv ∧ w2.cell? ⟨bx, 2, none⟩ = some (.int .i64 f.kind) ∧ w2.cell? ⟨bx, 3, none⟩ = some (.int .i64 f.n) ∧ w2.cell? ⟨bx, 4, none⟩ = some (.int .u8 f.x) ∧ w2.cell? ⟨bx, 5, none⟩ = some FB ∧
      (convert 28 9 bv).run Try.prog w2 = .ok (.string ⟨b.toArray⟩) w2 := core11_all hr ⟨core_kept hc.1.1 (Kept.of_below k), hc.1.2.1.below k, hc.1.2.2.below k⟩
theorem kept_put {B : Nat} {w w' : World} (k : Kept B [57, 60] w w') : Kept B [57, 60, 50, 62] w w' := k.mono (by simp)
theorem kept_rput {B h room : Nat} {l : List (List UInt8 × Nat)} {w w' : World} (hr : RefAt w B h room l) (k : w.grownBy w' (some h)) : Kept B [57, 60, 50, 62] w w' := by
  obtain ⟨v, hg, _⟩ := hr.ex
  exact Kept.of_grown k hg (by simp) hr.ge
theorem kept_rput5 {B h room : Nat} {l : List (List UInt8 × Nat)} {w w' : World} (hr : RefAt w B h room l) (k : w.grownBy w' (some h)) : Kept B [50] w w' := by
  obtain ⟨v, hg, _⟩ := hr.ex
  exact Kept.of_grown k hg (by simp) hr.ge

set_option maxHeartbeats 8000000 in
set_option maxRecDepth 100000 in
theorem wtells_walk (a0 : Int) (a1 : Option Addr) (len1 cap1 : Nat) (w : World) (w0 : (Lit.int .i64 a0).wf = true) (r1 : StepsIn w a1 len1 cap1) :
    Calls Try.prog 3 #[.int .i64 a0, .slice a1 len1 cap1] w fun e w' => e = .returned (.bool true) ∧ Below w.heap.size w w' := by
  obtain ⟨_, ha1⟩ := wf_i64 w0
  obtain ⟨room, hroom, hr1, hr2⟩ := room_of a0 ha1
  have HRM := Lib.hid hroom
  clear hroom
  go_enter Try.func3, Try.ntmps3
  go_wp2_with fail
  refine (shown_any _).mono ?_
  rintro e w1 ⟨rfl, hb1⟩
  have HB1 := Lib.hid hb1
  clear hb1
  go_wp2_with fail
  refine (wire_new _ a0 room HRM.out hr2).mono ?_
  rintro e w2 ⟨rfl, hb2, hs2⟩
  have HB2 : Hid (Below w.heap.size w w2) := HB1.out.trans (hb2.mono HB1.out.size)
  have hg : w.heap.size ≤ w1.heap.size := HB1.out.size
  have HS2 : Hid (WireAt w2 w.heap.size w1.heap.size room []) := hs2.lower hg
  have hz : w1.heap.size < w2.heap.size := hs2.lt
  clear hb2 hs2
  go_wp2_with fail
  refine (ref_new _ a0 room HRM.out hr2).mono ?_
  rintro e w3 ⟨rfl, hb3, hs3⟩
  have HB3 : Hid (Below w.heap.size w w3) := HB2.out.trans (hb3.mono HB2.out.size)
  have HS3 : Hid (WireAt w3 w.heap.size w1.heap.size room []) := HS2.out.below hb3
  have HR3 : Hid (RefAt w3 w.heap.size w2.heap.size room []) := hs3.lower (by omega)
  clear hb3 hs3
  go_wp2_with fail
  go_loopw [8] (fun i wr => ∃ k : Nat, k ≤ len1 ∧ i = .int .i64 k ∧ k ≤ 200 ∧ WTells w wr w1.heap.size w2.heap.size room k) (fun i _ => len1 - (intOf i).toNat)
  case atStart => exact ⟨0, Nat.zero_le _, rfl, by omega, HB3.out, [], HS3.out, HR3.out, by simp, fun p hp => by simp at hp⟩
  case round =>
    obtain ⟨k, hk, rfl, hk200, hbr, l, hsr, hrr, hll, hsm⟩ := hrel
    have HBr := Lib.hid hbr
    have HSr := Lib.hid hsr
    have HRr := Lib.hid hrr
    have HSM := Lib.hid hsm
    clear hbr hsr hrr hsm HB3 HS3 HR3 HB2 HS2 HB1
    have hmax : len1 ≤ 9223372036854775807 := by
      rcases r1 with ⟨_, h1, _⟩ | ⟨_, _, h1, h2, _⟩
      · omega
      · unfold maxLen at h2; omega
    by_cases hlt : k < len1
    · by_cases h200 : k < 200
      · have hd : (decide ((k : Int) < 200)) = true := by simp; omega
        obtain ⟨x1, rfl, hlc1, _, hst⟩ := r1.resolve_left (by rintro ⟨_, h, _⟩; omega)
        obtain ⟨kd, A, n, c, z, fk, fn, fx, A', n', c', z', hst⟩ := hst k hlt
        obtain ⟨f, rfl, rfl, rfl, rfl, hfv⟩ := fault_of (fk := fk) hst.row' hst.num.1 hst.num.2.1 hst.num.2.2
        have hcc := hst.row.cap
        obtain ⟨m, hm1, hm2, hmin⟩ : ∃ m : Nat, m ≤ n ∧ m ≤ 200 ∧ (if (200 : Int) < (n : Int) then (200 : Int) else (n : Int)) = (m : Int) := by
          by_cases h : 200 < n
          · exact ⟨200, by omega, by omega, by rw [if_pos (by omega)]; rfl⟩
          · exact ⟨n, by omega, by omega, by rw [if_neg (by omega)]⟩
        obtain ⟨b, hb⟩ : ∃ b, b = toB (z.take m) := ⟨_, rfl⟩
        have hrd : ReadsB w (.slice A m c) b := by rw [hb]; exact row_reads (hst.row.cut hm1) (by omega)
        have hbl : b.length = m := by
          obtain ⟨_, _, he, _⟩ := id hrd
          cases he; rfl
        have hbl2 : b.length ≤ 200 := by omega
        have HMIN := Lib.hid hmin
        have HFV := Lib.hid hfv
        have HRD := Lib.hid hrd
        have HVC : Hid (∀ A1 n1 c1, Value.slice A m c = .slice A1 n1 c1 → c1 ≤ 9223372036854775807) := cap_lit hcc.2
        have hfb : f.b.length ≤ 9223372036854775807 := by
          obtain ⟨_, _, _, hq, _⟩ := hfv
          obtain ⟨_, _, h1, h2, h3, _⟩ := hq
          omega
        have d0 : wr.cell? (x1.add (k * 6)) = some (.int .i64 kd) := (HBr.out.cell (World.block_lt_of_cell? w _ hst.c0)).trans hst.c0
        have g : ∀ {q : Addr} {v : Value}, w.cell? q = some v → wr.cell? q = some v := fun hc => (HBr.out.cell (World.block_lt_of_cell? w _ hc)).trans hc
        have c1 := g hst.c1
        have c2 := g hst.c2
        have c3 := g hst.c3
        have c4 := g hst.c4
        have c5 := g hst.c5
        have d1 : wr.cell? ⟨(x1.add (k * 6)).block, (x1.add (k * 6)).off + 1, none⟩ = some (.slice A n c) := by simpa [Addr.add] using c1
        have d2 : wr.cell? ⟨(x1.add (k * 6)).block, (x1.add (k * 6)).off + 2, none⟩ = some (.int .i64 f.kind) := by simpa [Addr.add] using c2
        have d3 : wr.cell? ⟨(x1.add (k * 6)).block, (x1.add (k * 6)).off + 3, none⟩ = some (.int .i64 f.n) := by simpa [Addr.add] using c3
        have d4 : wr.cell? ⟨(x1.add (k * 6)).block, (x1.add (k * 6)).off + 4, none⟩ = some (.int .u8 f.x) := by simpa [Addr.add] using c4
        have d5 : wr.cell? ⟨(x1.add (k * 6)).block, (x1.add (k * 6)).off + 5, none⟩ = some (.slice A' f.b.length c') := by simpa [Addr.add] using c5
        have hn2 := hst.num.1
        have hx0 := hst.num.2.1
        have hx1 := hst.num.2.2
        clear g hst hfv hrd hb hbl hmin r1 c1 c2 c3 c4 c5
        have hwl : w.heap.size ≤ wr.heap.size := HBr.out.size
        have hgl := HSr.out.lt
        have hhl := HRr.out.lt
        go_upto_region 10 with fail
        go_cut [] (fun w' => Below wr.heap.size wr w' ∧ CoreW w wr.heap.size kd f (.slice A m c) (.slice A' f.b.length c') w')
        case first =>
          go_wp2_with fail
          refine (few_any _ A n c m HMIN.out hm1 hcc.1).mono ?_
          rintro e w4 ⟨rfl, rfl⟩
          go_wp2_with fail
          go_meet
          case rel => exact ⟨(Below.refl _ _).alloc (Nat.le_refl _) _, HBr.out.trans (((Below.refl _ _).alloc (Nat.le_refl _) _).mono hwl), blk_new _ _⟩
        case rest =>
        obtain ⟨w5, rfl⟩ : ∃ w5, w5 = wc := ⟨wc, rfl⟩
        obtain ⟨hb5, hcore⟩ := hcut
        have d6 : w5.cell? ⟨wr.heap.size, 0, none⟩ = some (.int .i64 kd) := blk_cell hcore.2 0
        have D6 := Lib.hid d6
        have hszle : wr.heap.size < w5.heap.size := blk_lt hcore.2
        have HC5 := Lib.hid (show Core11 w w1.heap.size w2.heap.size room l wr.heap.size kd f (.slice A m c) (.slice A' f.b.length c') w5 from ⟨hcore, HSr.out.below hb5, HRr.out.below hb5⟩)
        have ho200 := FT.of_small f b hbl2
        have hol := f.of_len b
        have HO200 := Lib.hid ho200
        clear hb5 hcore d0 d1 d2 d3 d4 d5 d6 ho200 HSr HRr
        go_upto_region 11 with fail
        go_cut [10] (fun ok w' => ok = .bool true ∧ Core11 w w1.heap.size w2.heap.size room l wr.heap.size kd f (.slice A m c) (.slice A' f.b.length c') w')
        case first =>
          go_region_held3 (fun w' => Core11 w w1.heap.size w2.heap.size room l wr.heap.size kd f (.slice A m c) (.slice A' f.b.length c') w' ∧ w'.cell? ⟨wr.heap.size, 1, none⟩ = some (.slice A m c) ∧ w'.cell? ⟨wr.heap.size, 2, none⟩ = some (.int .i64 f.kind) ∧ w'.cell? ⟨wr.heap.size, 3, none⟩ = some (.int .i64 f.n) ∧ w'.cell? ⟨wr.heap.size, 4, none⟩ = some (.int .u8 f.x) ∧ w'.cell? ⟨wr.heap.size, 5, none⟩ = some (.slice A' f.b.length c') ∧ (convert 28 9 (.slice A m c)).run Try.prog w' = .ok (.string ⟨b.toArray⟩) w')
            ((first
              | exact core11_all HRD.out ⟨⟨HC5.out.1.1.drew, HC5.out.1.2⟩, HC5.out.2.1.below (drew_below _), HC5.out.2.2.below (drew_below _)⟩
              | assumption
              | exact core11_step HRD.out (by assumption) (by assumption)))
            ((first
              | (go_at_call 14; refine (of_any _ _ (.slice A m c) f b ?_ ?_ hbl2 HVC.out).mono ?_; exact HFV.out.below (‹Core11 w w1.heap.size w2.heap.size room l wr.heap.size kd f (.slice A m c) (.slice A' f.b.length c') _ ∧ _›).1.1.1; exact HRD.out.below (‹Core11 w w1.heap.size w2.heap.size room l wr.heap.size kd f (.slice A m c) (.slice A' f.b.length c') _ ∧ _›).1.1.1; rintro e wA ⟨vA, rfl, hA, hbA⟩; obtain ⟨AA, cA, rfl⟩ := hA.slice; replace hA := hA.lower (Nat.zero_le _))
              | (go_at_call 16; refine (ref_any _ _ f ?_).mono ?_; exact HFV.out.below (‹Core11 w w1.heap.size w2.heap.size room l wr.heap.size kd f (.slice A m c) (.slice A' f.b.length c') _ ∧ _›).1.1.1; rintro e wB ⟨rfl, hbB⟩)
              | (go_at_call 15; refine (refof_any _ f b hn2 hfb hx0 hx1 hbl2).mono ?_; rintro e wC ⟨vC, rfl, hC, hbC, _⟩; obtain ⟨AC, cC, rfl, _⟩ := id hC)
              | (go_at_call 13; refine (texts_eq _ 0 (.slice AA (f.of b).length cA) (.slice AC (f.of b).length cC) (f.of b) ?_ ?_ (by omega) HO200.out).mono ?_; (first | exact hA | exact hA.below hbC | exact (hA.below hbB).below hbC); (first | exact hC | exact hC.below hbA); rintro e wD ⟨rfl, hbD⟩)))
          all_goals
            go_wp2_with fail
            go_meet
            case rel => exact ⟨rfl, (‹Core11 w w1.heap.size w2.heap.size room l wr.heap.size kd f (.slice A m c) (.slice A' f.b.length c') wD ∧ _›).1⟩
        case rest =>
        obtain ⟨w6, rfl⟩ : ∃ w6, w6 = wc := ⟨wc, rfl⟩
        obtain ⟨rfl, hc6⟩ := hcut
        have HC6 := Lib.hid hc6
        have e0 : w6.cell? ⟨wr.heap.size, 0, none⟩ = some (.int .i64 kd) := blk_cell hc6.1.2 0
        have hszle6 : wr.heap.size < w6.heap.size := blk_lt hc6.1.2
        have hsz6 : w.heap.size ≤ w6.heap.size := hc6.1.1.size
        clear hc6 HC5
        go_upto_if 51 with fail
        go_cut [10] (fun ok w' => ok = .bool true ∧ Below w.heap.size w w' ∧ ∃ l', WireAt w' w.heap.size w1.heap.size room l' ∧ RefAt w' w.heap.size w2.heap.size room l' ∧ l'.length ≤ 2 * (k + 1) ∧ Small l')
        case first =>
          by_cases hk2 : kd ≤ 2
          · have hd2 : decide (kd ≤ 2) = true := by simpa using hk2
            obtain ⟨nn, l', hF⟩ : ∃ n l', putF room l f b = (n, l') := ⟨_, _, rfl⟩
            have HF := Lib.hid hF
            have hll' := put_len hF
            have HSM' := Lib.hid (HSM.out.put hbl2 hF)
            clear hF
            go_upto_region 13 with fail
            go_region_held3 (fun w' => CoreW w wr.heap.size kd f (.slice A m c) (.slice A' f.b.length c') w' ∧ w'.cell? ⟨wr.heap.size, 1, none⟩ = some (.slice A m c) ∧ w'.cell? ⟨wr.heap.size, 2, none⟩ = some (.int .i64 f.kind) ∧ w'.cell? ⟨wr.heap.size, 3, none⟩ = some (.int .i64 f.n) ∧ w'.cell? ⟨wr.heap.size, 4, none⟩ = some (.int .u8 f.x) ∧ w'.cell? ⟨wr.heap.size, 5, none⟩ = some (.slice A' f.b.length c') ∧ (convert 28 9 (.slice A m c)).run Try.prog w' = .ok (.string ⟨b.toArray⟩) w')
              ((first
                | exact core_all HRD.out ⟨HC6.out.1.1.drew, HC6.out.1.2⟩
                | assumption
                | exact core_step HRD.out (by assumption) (by assumption)))
              ((first
                | (go_at_call 17; refine (wire_put _ w.heap.size w1.heap.size room l l' nn _ (.slice A m c) f b ?_ ?_ ?_ hbl2 HVC.out (by omega) HF.out).mono ?_; (first | exact HC6.out.2.1.below (drew_below _) | exact (HC6.out.2.1.below (drew_below _)).below hbB | exact ((HC6.out.2.1.below (drew_below _)).below hbB).kept kC5 (by decide) (by decide) (by decide)); exact HFV.out.below (‹CoreW w wr.heap.size kd f (.slice A m c) (.slice A' f.b.length c') _ ∧ _›).1.1; exact HRD.out.below (‹CoreW w wr.heap.size kd f (.slice A m c) (.slice A' f.b.length c') _ ∧ _›).1.1; rintro e wA ⟨rfl, kA0, hwA⟩; have kA := kept_put kA0)
                | (go_at_call 16; refine (ref_any _ _ f ?_).mono ?_; exact HFV.out.below (‹CoreW w wr.heap.size kd f (.slice A m c) (.slice A' f.b.length c') _ ∧ _›).1.1; rintro e wB ⟨rfl, hbB⟩; have kB : Kept w.heap.size [57, 60, 50, 62] _ wB := Kept.of_below hbB)
                | (go_at_call 18; refine (ref_put _ w.heap.size w2.heap.size room l l' nn f b ?_ hn2 hfb hx0 hx1 hbl2 (by omega) HF.out).mono ?_; (first | exact (HC6.out.2.2.below (drew_below _)).below hbB | exact ((HC6.out.2.2.below (drew_below _)).below hbB).kept kA0 (by decide) (by decide) | exact ((HC6.out.2.2.below (drew_below _)).kept kA0 (by decide) (by decide)).below hbB); rintro e wC ⟨rfl, gC, hrC⟩; have kC5 : Kept w.heap.size [50] _ wC := (by first | exact kept_rput5 ((HC6.out.2.2.below (drew_below _)).below hbB) gC | exact kept_rput5 (((HC6.out.2.2.below (drew_below _)).below hbB).kept kA0 (by decide) (by decide)) gC | exact kept_rput5 (((HC6.out.2.2.below (drew_below _)).kept kA0 (by decide) (by decide)).below hbB) gC); have kC : Kept w.heap.size [57, 60, 50, 62] _ wC := kC5.mono (by simp))))
            all_goals
              go_wp2_with fail
              go_meet
              case rel => exact ⟨by simp, (‹CoreW w wr.heap.size kd f (.slice A m c) (.slice A' f.b.length c') wC ∧ _›).1.1, l', (hwA.below hbB).kept kC5 (by decide) (by decide) (by decide), hrC, by omega, HSM'.out⟩
          · have hd2 : decide (kd ≤ 2) = false := by simpa using hk2
            have hl1 := take_len l
            have hl2 := take_out_len l
            have hsm2 := take_small HSM.out
            have HS2 := Lib.hid hsm2
            clear hsm2
            go_wp2_with fail
            refine (wire_take _ w.heap.size w1.heap.size room l HC6.out.2.1 (by omega)).mono ?_
            rintro e w7 ⟨v7, rfl, hr7, hk7, hs7⟩
            obtain ⟨A7, c7, rfl⟩ := hr7.slice
            have HR7 := Lib.hid hr7
            have HB7 : Hid (Below w.heap.size w w7) := HC6.out.1.1.trans (hk7.below hsz6)
            have HS7 := Lib.hid hs7
            have HF7 := Lib.hid (HC6.out.2.2.kept hk7 (by decide) (by decide))
            have hsz7 : w.heap.size ≤ w7.heap.size := HB7.out.size
            clear hr7 hk7 hs7
            go_wp2_with fail
            refine (ref_take _ w.heap.size w2.heap.size room l HF7.out (by omega)).mono ?_
            rintro e w8 ⟨v8, rfl, hr8, hk8, hs8⟩
            have hr8' := own_texts hr8
            obtain ⟨A8, c8, rfl, _⟩ := id hr8'
            have HR8 := Lib.hid hr8'
            have HB8 : Hid (Below w.heap.size w w8) := HB7.out.trans (hk8.below hsz7)
            have HF8 := Lib.hid hs8
            have HS8 := Lib.hid (HS7.out.kept hk8 (by decide) (by decide) (by decide))
            have HR7' := Lib.hid (HR7.out.kept hk8 (by decide) (by decide))
            have hsz8 : w.heap.size ≤ w8.heap.size := HB8.out.size
            clear hr8 hr8' hk8 hs8
            go_wp2_with fail
            refine (texts_eq _ w.heap.size _ _ (takeF l).1 HR7'.out HR8.out (by omega) (fun x hx => by have := HS2.out.1 x hx; omega)).mono ?_
            rintro e w9 ⟨rfl, hb9⟩
            have HB9 : Hid (Below w.heap.size w w9) := HB8.out.trans (hb9.mono hsz8)
            have HF9 := Lib.hid (HF8.out.below hb9)
            have HS9 := Lib.hid (HS8.out.below hb9)
            clear hb9
            go_wp2_with fail
            go_meet
            case rel => exact ⟨rfl, HB9.out, (takeF l).2, HS9.out, HF9.out, by omega, HS2.out.2⟩
        case rest =>
        obtain ⟨rfl, hbE, l', hsE, hrE, hlE, hmE⟩ := hcut
        obtain ⟨vE, hgE, hoE⟩ := hrE.ex
        obtain ⟨AE, cE, rfl⟩ := hoE.slice
        have q1 := blk_cell hgE 1
        simp at q1
        have HSE := Lib.hid hsE
        have HRE := Lib.hid hrE
        have HBE := Lib.hid hbE
        have HME := Lib.hid hmE
        clear hbE hsE hrE hgE hoE hmE e0
        go_upto_region 15 with fail
        go_quiet ((first
          | (go_at_call 21; refine quiet_left (wire_len _ w.heap.size w1.heap.size room l' (HSE.out.below (below_drewN (Below.refl _ _) _))))
          | (go_at_call 21; refine quiet_add_left (wire_len _ w.heap.size w1.heap.size room l' (HSE.out.below (below_drewN (Below.refl _ _) _))))))
        go_wp2_with fail
        go_roundw
        case rel => exact ⟨k + 1, by omega, by go_num, by omega, below_drewN HBE.out _, l', HSE.out.below (below_drewN (Below.refl _ _) _), HRE.out.below (below_drewN (Below.refl _ _) _), hlE, HME.out⟩
        case measure => simp [intOf]; omega
      · have hd : (decide ((k : Int) < 200)) = false := by simp; omega
        go_wp2_with fail
        go_ret
        exact ⟨rfl, HBr.out⟩
    · go_wp2_with fail
      go_ret
      exact ⟨rfl, HBr.out⟩
end Go.Proofs.Ytcdanimdkkhamaa
