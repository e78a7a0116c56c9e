/- Wire.Put. -/
import Derived.Test.YtcdanimdkkhamaaWs
set_option linter.unusedVariables false
set_option linter.unusedSimpArgs false
namespace Go.Proofs.Ytcdanimdkkhamaa
open Go.RowKit

theorem Try.info60 : (Try.prog.info? 60).map (fun i => (i.zero, i.size, i.bytes)) = some (some (.agg #[.slice none 0 0, .int .i64 0]), 2, 32) := by kernel_rfl

theorem zip_snoc {us : List Value} {l : List (List UInt8 × Nat)} (h : us.length = l.length) (u : Value) (p : List UInt8 × Nat) :
    cells2 ((us ++ [u]).zip ((l ++ [p]).map Prod.snd)) = cells2 (us.zip (l.map Prod.snd)) ++ [u, .int .i64 (p.2 : Int)] := by
  rw [List.map_append, List.zip_append (by simpa using h), cells2_app]
  rfl
/-- What is put behind the rows. -/
theorem wire_push {wr w2 : World} {B g room B' : Nat} {l : List (List UInt8 × Nat)} {v v2 u : Value} {us : List Value} {b : List UInt8} {h : Nat} {tmp : Obj}
    (hB : B ≤ g) (hrm : room ≤ 9223372036854775807) (hh : ∀ p ∈ l, p.2 ≤ 16) (hh2 : h ≤ 16) (hul : us.length = l.length) (hg : wr.heap[g]? = some (.cells #[.int .i64 (room : Int), v] 57 (0, 0)))
    (ho : OffRow wr B 60 2 v l.length (cells2 (us.zip (l.map Prod.snd))))
    (hr : ∀ (i : Nat) (u : Value) (p : List UInt8 × Nat), us[i]? = some u → l[i]? = some p → wr.ownsRow B 5 1 u p.1.length (bytesV p.1))
    (hu : wr.ownsRow B' 5 1 u b.length (bytesV b)) (hB' : B ≤ B')
    (hgr : (wr.alloc tmp).grownBy w2 v.ownBlock) (ho2 : OffRow w2 B 60 2 v2 (l.length + 1) (cells2 (us.zip (l.map Prod.snd)) ++ [u, .int .i64 (h : Int)])) :
    Kept B [57, 60] wr (w2.setCell ⟨g, 1, none⟩ v2) ∧ WireAt (w2.setCell ⟨g, 1, none⟩ v2) B g room (l ++ [(b, h)]) := by
  have hal : Below wr.heap.size wr (wr.alloc tmp) := (Below.refl _ _).alloc (Nat.le_refl _) _
  have k1 : Kept B [60] wr w2 := (Kept.of_below hal).trans (Kept.of_row hgr (ho.below hal) (by simp))
  have hg2 : w2.heap[g]? = some (.cells #[.int .i64 (room : Int), v] 57 (0, 0)) := k1.blk hg (by decide)
  have k2 : Kept B [57] w2 (w2.setCell ⟨g, 1, none⟩ v2) := Kept.of_grown (grown_set (grown_refl _ _) _ _) hg2 (by simp) hB
  have k3 : Kept B [57, 60] wr (w2.setCell ⟨g, 1, none⟩ v2) := (k1.mono (by simp)).trans (k2.mono (by simp))
  refine ⟨k3, hB, hrm, fun p hp => ?_, v2, us ++ [u], by simp [hul], ?_, ?_, fun i u' p hu' hp => ?_⟩
  · rcases List.mem_append.1 hp with h1 | h1
    · exact hh p h1
    · simp at h1; subst h1; exact hh2
  · have := blk_set hg2 1 v2
    simpa using this
  · rw [zip_snoc hul]
    have hlen : (l ++ [(b, h)]).length = l.length + 1 := by simp
    rw [hlen]
    exact off_kept ho2 k2 (by decide)
  · by_cases hi : i < l.length
    · rw [List.getElem?_append_left (by omega)] at hu'
      rw [List.getElem?_append_left hi] at hp
      exact own_kept (hr i u' p hu' hp) k3 (by decide)
    · have hi' : i = l.length := by
        have := (List.getElem?_eq_some_iff.1 hp).1
        simp at this
        omega
      subst hi'
      rw [List.getElem?_append_right (by omega)] at hu'
      rw [List.getElem?_append_right (by omega)] at hp
      simp [hul] at hu' hp
      subst hu'
      subst hp
      exact own_lower (own_kept hu k3 (by decide)) hB'

def PutEnd (w : World) (B g room : Nat) (n : Int) (l : List (List UInt8 × Nat)) (e : Ending) (w' : World) : Prop := e = .returned (.int .i64 n) ∧ Kept B [57, 60] w w' ∧ WireAt w' B g room l

set_option maxHeartbeats 2000000 in
theorem put_full (w : World) (B g room : Nat) (l : List (List UInt8 × Nat)) (fv v : Value) (f : FT) (b : List UInt8) (hw : WireAt w B g room l) (hf : FaultV w fv f) (hr : ReadsB w v b) (hl : b.length ≤ 200) (hvc : ∀ A n c, v = .slice A n c → c ≤ 9223372036854775807)
    (hll : l.length ≤ 10000) (hF : room < l.length + (f.of b).length) :
    Calls Try.prog 17 #[.pointer (some ⟨g, 0, none⟩), v, fv] w (PutEnd w B g room 5 l) := by
  obtain ⟨vw, us, hul, hg, ho, hrr⟩ := hw.ex
  obtain ⟨Aw, cw, rfl⟩ := ho.slice
  have HW := Lib.hid hw
  have HF := Lib.hid hf
  have HR := Lib.hid hr
  have HV := Lib.hid hvc
  have HG := Lib.hid hg
  have hlt := hw.lt
  obtain ⟨A, c, rfl, _⟩ := hf
  have h2 := FT.of_len f b
  clear hw hr hvc hg ho hrr hul
  go_enter Try.func17, Try.ntmps17
  go_wp2_with fail
  refine (of_any _ _ v f b (HF.out.below ((Below.refl _ _).alloc (Nat.le_refl _) _)) (HR.out.below ((Below.refl _ _).alloc (Nat.le_refl _) _)) hl HV.out).mono ?_
  rintro e w1 ⟨vA, rfl, hA, hb1⟩
  obtain ⟨A1, c1, rfl⟩ := hA.slice
  have hg1 := blk_below' (blk_alloc HG.out _) hb1
  have g0 := blk_cell hg1 0
  have g1 := blk_cell hg1 1
  simp at g0 g1
  have HB1 : Hid (Below w.heap.size w w1) := ((Below.refl _ _).alloc (Nat.le_refl _) _).trans (hb1.mono (by simp))
  have hd : decide (room < l.length + (f.of b).length) = true := by simpa using hF
  clear hA hb1 hg1
  go_wp2_with fail
  go_quiet (fail)
  go_wp2_with fail
  go_ret
  have hk : Below w.heap.size w w1.drew := HB1.out.drew
  first
    | exact ⟨rfl, Kept.of_below HB1.out.drew, HW.out.below HB1.out.drew⟩
    | exact ⟨rfl, Kept.of_below (below_drewN HB1.out _), HW.out.below (below_drewN HB1.out _)⟩
end Go.Proofs.Ytcdanimdkkhamaa
