/- New, Addrs. -/
import Derived.Test.YtmkbleeideddkaaPd
set_option linter.unusedVariables false
set_option linter.unusedSimpArgs false
namespace Go.Proofs.Ytmkbleeideddkaa
open Go.RowKit

theorem Try.info55 : (Try.prog.info? 55).map (fun i => (i.zero, i.size, i.bytes)) = some (some (.pointer none), 1, 8) := by kernel_rfl

/-- An address more. -/
theorem poll_push {wr w2 : World} {B g : Nat} {v v2 : Value} {us : List Nat} {P : PS} {p : PP} {tmp : Obj} (h : PollIn wr B g v us P) (ht : P.turn = 0) (hp : I64 p.since) (h39 : P.row.length + 1 ≤ 40)
    (hgr : ((wr.alloc (.cells #[.int .u8 p.addr, .bool p.dead, .int .i64 p.since] 58)).alloc tmp).grownBy w2 v.ownBlock) (ho : w2.ownsRow B 55 1 v2 (P.row.length + 1) (ptrs us ++ [.pointer (some ⟨wr.heap.size, 0, none⟩)])) :
    Kept B [54, 55] wr (w2.setCell ⟨g, 0, none⟩ v2) ∧ PollIn (w2.setCell ⟨g, 0, none⟩ v2) B g v2 (us ++ [wr.heap.size]) { P with row := P.row ++ [p] } := by
  have hal : Below wr.heap.size wr ((wr.alloc (.cells #[.int .u8 p.addr, .bool p.dead, .int .i64 p.since] 58)).alloc tmp) := ((Below.refl _ _).alloc (Nat.le_refl _) _).alloc (by simp) _
  have hrow := own_below h.row hal
  have k1 : Kept B [55] ((wr.alloc (.cells #[.int .u8 p.addr, .bool p.dead, .int .i64 p.since] 58)).alloc tmp) w2 := Kept.of_row hgr (off_of_own hrow) (by simp)
  have hg2 := k1.blk (blk_below' h.blk hal) (by decide)
  have k2 : Kept B [54] w2 (w2.setCell ⟨g, 0, none⟩ v2) := Kept.of_grown (grown_set (grown_refl _ _) _ _) hg2 (by simp) h.ge
  have hnp : PeerAt ((wr.alloc (.cells #[.int .u8 p.addr, .bool p.dead, .int .i64 p.since] 58)).alloc tmp) wr.heap.size p := blk_alloc (blk_new _ _) _
  have hB : B ≤ wr.heap.size := by have := h.ge; have := h.lt; omega
  have hlen := h.len
  have hltu : ∀ a ∈ us, a < wr.heap.size := by
    intro a ha
    obtain ⟨i, hi, rfl⟩ := List.getElem_of_mem ha
    exact blk_lt (h.pe i _ _ (List.getElem?_eq_getElem hi) (List.getElem?_eq_getElem (by omega)))
  refine ⟨((Kept.of_below hal).trans (k1.mono (by simp))).trans (k2.mono (by simp)), h.ge, ?_, ?_, by simp [hlen], ?_, ?_, fun i a q ha hq => ?_, by simpa using h39, by show P.turn ≤ _; omega, ?_⟩
  · have := blk_set hg2 0 v2
    simpa using this
  · have e1 : (P.row ++ [p]).length = P.row.length + 1 := by simp
    have e2 : ptrs (us ++ [wr.heap.size]) = ptrs us ++ [.pointer (some ⟨wr.heap.size, 0, none⟩)] := by simp [ptrs]
    rw [e1, e2]
    exact own_keep ho fun k hkk => by
      obtain ⟨cs, fr, hh⟩ := own_ty ho k hkk
      exact k2.block k (blk_lt hh) (.inr ⟨_, _, _, hh, by decide⟩)
  · rw [List.nodup_append]
    refine ⟨h.nd, by simp, fun a ha b hb => ?_⟩
    simp at hb
    have := hltu a ha
    omega
  · intro a ha
    rcases List.mem_append.1 ha with ha | ha
    · exact h.lo a ha
    · simp at ha; omega
  · by_cases hi : i < us.length
    · rw [List.getElem?_append_left hi] at ha
      rw [List.getElem?_append_left (by omega)] at hq
      exact k2.blk (k1.blk (blk_below' (h.pe i a q ha hq) hal) (by decide)) (by decide)
    · have hi' : i = us.length := by
        have := (List.getElem?_eq_some_iff.1 ha).1
        simp at this
        omega
      subst hi'
      rw [List.getElem?_append_right (by omega)] at ha
      rw [List.getElem?_append_right (by omega)] at hq
      simp [hlen] at ha hq
      subst ha
      subst hq
      exact k2.blk (k1.blk hnp (by decide)) (by decide)
  · intro q hq
    rcases List.mem_append.1 hq with hq | hq
    · exact h.sb q hq
    · simp at hq; subst hq; exact hp

def intsOf (l : List UInt8) : List Int := l.map fun b => (b.toNat : Int)
def NewI (w : World) (g : Nat) (P : PS) (wr : World) : Prop := Below w.heap.size w wr ∧ PollAt wr w.heap.size g P
theorem fold_len (l : List Int) (r : List PP) : (l.foldl addF r).length ≤ r.length + l.length := by
  induction l generalizing r with
  | nil => simp
  | cons a t ih =>
    have := ih (addF r a)
    have h2 : (addF r a).length ≤ r.length + 1 := by unfold addF; split <;> simp
    simp only [List.foldl_cons, List.length_cons]
    omega
theorem take_ints (l : List UInt8) (k : Nat) (h : k < l.length) : intsOf (l.take (k + 1)) = intsOf (l.take k) ++ [((l.getD k 0).toNat : Int)] := by
  unfold intsOf
  rw [List.take_succ_eq_append_getElem h, List.map_append, List.getD, List.getElem?_eq_getElem h]
  rfl

set_option maxHeartbeats 4000000 in
theorem poll_new (w : World) (v : Value) (l : List UInt8) (h : ReadsB w v l) (hl : l.length ≤ 40) (hvc : ∀ A n c, v = .slice A n c → c ≤ 9223372036854775807) :
    Calls Try.prog 11 #[v] w fun e w' => e = .returned (.pointer (some ⟨w.heap.size, 0, none⟩)) ∧ Below w.heap.size w w' ∧ PollAt w' w.heap.size w.heap.size (newF (intsOf l)) := by
  obtain ⟨A, c, rfl, hlc, hl2, hnil, hcell⟩ := h
  have hcc := hvc _ _ _ rfl
  obtain ⟨i0, hi, hz0, hz1, hz2⟩ := info_parts Try.info55
  have HC := Lib.hid hcell
  have HN := Lib.hid hnil
  clear hcell hnil hvc
  go_enter Try.func11, Try.ntmps11
  go_wp2_with fail
  go_loopw [10] (fun i wr => ∃ k : Nat, k ≤ l.length ∧ i = .int .i64 k ∧ NewI w w.heap.size (newF (intsOf (l.take k))) wr) (fun i _ => l.length - (intOf i).toNat)
  case atStart =>
    refine ⟨0, Nat.zero_le _, rfl, (Below.refl _ _).alloc (Nat.le_refl _) _, .slice none 0 0, [], ?_⟩
    exact ⟨Nat.le_refl _, blk_new _ _, World.ownsRow_nil _ _ _ _, rfl, List.nodup_nil, fun a ha => by simp at ha, fun i a p ha => by simp at ha, by simp [newF, intsOf], by simp [newF], fun p hp => by simp [newF, intsOf] at hp⟩
  case round =>
    obtain ⟨k, hk, rfl, hbr, hpo⟩ := hrel
    have HBR := Lib.hid hbr
    have HPO := Lib.hid hpo
    clear hbr hpo
    by_cases hlt : k < l.length
    · obtain ⟨ad, rfl⟩ : ∃ ad, A = some ad := by
        cases A with
        | none => have := (HN.out rfl).1; subst this; simp at hlt
        | some ad => exact ⟨ad, rfl⟩
      obtain ⟨a, ha, ha255⟩ : ∃ a : Nat, a = (l.getD k 0).toNat ∧ a < 256 := ⟨_, rfl, (l.getD k 0).toNat_lt⟩
      have hca : w.cell? (ad.add k) = some (.int .u8 (a : Int)) := by
        refine HC.out ad rfl k _ ?_
        rw [ha]
        simp [bytesV, List.getElem?_eq_getElem hlt, List.getD]
      have hcr : wr.cell? (ad.add k) = some (.int .u8 (a : Int)) := (HBR.out.cell (World.block_lt_of_cell? w _ hca)).trans hca
      have hnx : newF (intsOf (l.take (k + 1))) = ⟨addF (newF (intsOf (l.take k))).row (a : Int), 0⟩ := by
        unfold newF
        rw [take_ints l k hlt, List.foldl_append, ← ha]
        rfl
      have hrl : (newF (intsOf (l.take k))).row.length ≤ k := by
        have h8 := fold_len (intsOf (l.take k)) []
        have h9 : (intsOf (l.take k)).length ≤ k := by simp [intsOf]; omega
        simp only [List.length_nil] at h8
        simp only [newF]
        omega
      have htz : (newF (intsOf (l.take k))).turn = 0 := rfl
      obtain ⟨P, hP⟩ : ∃ P, P = newF (intsOf (l.take k)) := ⟨_, rfl⟩
      rw [← hP] at HPO hnx hrl htz
      have HNX := Lib.hid hnx
      have HTZ := Lib.hid htz
      clear hca ha hnx hP htz
      by_cases h1 : 1 ≤ a
      · have e1 : decide (1 ≤ a) = true := by simpa using h1
        by_cases h2 : a ≤ 31
        · have e2 : decide ((a : Int) ≤ 31) = true := by simp; omega
          obtain ⟨v, us, hin⟩ := HPO.out
          have HI := Lib.hid hin
          cases hf : findF P.row (a : Int) with
          | some i =>
            have hnn : addF P.row (a : Int) = P.row := by unfold addF; rw [if_neg (by rw [hf]; simp)]
            have HF := Lib.hid hf
            have HNN := Lib.hid hnn
            clear hf hnn hin
            go_wp2_with fail
            refine (find_any _ w.heap.size w.heap.size v us P (a : Int) HI.out).mono ?_
            rw [HF.out]
            rintro e w2 ⟨rfl, hb2⟩
            have HB2 := Lib.hid hb2
            clear hb2
            unfold ptrF
            go_wp2_with fail
            go_roundw
            case rel =>
              refine ⟨k + 1, by omega, by go_num, HBR.out.trans (HB2.out.mono HBR.out.size), ?_⟩
              rw [HNX.out, HNN.out]
              have := HPO.out.below HB2.out
              have ht := HTZ.out
              obtain ⟨r, t⟩ := P
              simp only [] at ht
              subst ht
              exact this
            case measure => simp [intOf]; omega
          | none =>
            have hnn : addF P.row (a : Int) = P.row ++ [⟨a, false, 0⟩] := by unfold addF; rw [if_pos ⟨by omega, by omega, hf⟩]
            have HF := Lib.hid hf
            have HNN := Lib.hid hnn
            clear hf hnn hin
            go_wp2_with fail
            refine (find_any _ w.heap.size w.heap.size v us P (a : Int) HI.out).mono ?_
            rw [HF.out]
            rintro e w2 ⟨rfl, hb2⟩
            have hi2 := HI.out.below hb2
            have HI2 := Lib.hid hi2
            have HB2 := Lib.hid hb2
            obtain ⟨Av, cv, rfl⟩ := own_slice hi2.row
            have g0 := blk_cell hi2.blk 0
            simp at g0
            have hgl := hi2.lt
            have hne : Hid (some w.heap.size ≠ (Value.slice Av P.row.length cv).ownBlock) := fun e => by have := own_ne HI2.out.row HI2.out.blk (by decide) w.heap.size e.symm; omega
            clear hb2 hi2
            unfold ptrF
            go_wp2_with (at_builtin; go_loud (refine wpList_append_own _ rfl (.tmp 30) (.tmp 34) 52 rfl w.heap.size 55 i0 (.pointer none) 1 8 Try.underlying52 hi hz0 hz1 hz2 rfl (by decide) (.slice Av P.row.length cv) P.row.length (ptrs us) rfl ?_ ⟨w2.heap.size + 1, 0, none⟩ 1 1 [.pointer (some ⟨w2.heap.size, 0, none⟩)] rfl rfl ?_ ?_ ?_ ?_ ?_ ?_))
            · exact own_below HI2.out.row (((Below.refl _ _).alloc (Nat.le_refl _) _).alloc (by simp) _)
            · exact news_one (blk_new' _ _ _ (by simp))
            · simp [Value.oneCell']
            · unfold maxLen; omega
            · omega
            · simp; omega
            intro v3 w3 ho3 hg3 _
            obtain ⟨A3, c3, rfl⟩ := own_slice ho3
            have hgb := blk_grown (blk_alloc (blk_alloc HI2.out.blk _) _) hg3 hne.out
            have g3 := blk_cell hgb 0
            have f3 := blk_frozen hgb 0
            simp at g3
            have HO3 := Lib.hid ho3
            have HG3 := Lib.hid hg3
            clear ho3 hg3 hgb
            go_wp2_with fail
            go_roundw
            case rel =>
              have hpp := poll_push (p := ⟨a, false, 0⟩) HI2.out HTZ.out ⟨by show (-9223372036854775808 : Int) ≤ 0; omega, by show (0 : Int) ≤ _; omega⟩ (by omega) HG3.out HO3.out
              refine ⟨k + 1, by omega, by go_num, (HBR.out.trans (HB2.out.mono HBR.out.size)).trans (hpp.1.below (Nat.le_trans HBR.out.size HB2.out.size)), ?_⟩
              rw [HNX.out, HNN.out]
              have ht := HTZ.out
              obtain ⟨r, t⟩ := P
              simp only [] at ht
              subst ht
              exact ⟨_, _, hpp.2⟩
            case measure => simp [intOf]; omega
        · have e2 : decide ((a : Int) ≤ 31) = false := by simp; omega
          have hnn : addF P.row (a : Int) = P.row := by unfold addF; rw [if_neg (by omega)]
          have HNN := Lib.hid hnn
          clear hnn
          go_wp2_with fail
          go_roundw
          case rel =>
            refine ⟨k + 1, by omega, by go_num, HBR.out, ?_⟩
            rw [HNX.out, HNN.out]
            have := HPO.out
            have ht := HTZ.out
            obtain ⟨r, t⟩ := P
            simp only [] at ht
            subst ht
            exact this
          case measure => simp [intOf]; omega
      · have e1 : decide (1 ≤ a) = false := by simp; omega
        have hnn : addF P.row (a : Int) = P.row := by unfold addF; rw [if_neg (by omega)]
        have HNN := Lib.hid hnn
        clear hnn
        go_wp2_with fail
        go_roundw
        case rel =>
          refine ⟨k + 1, by omega, by go_num, HBR.out, ?_⟩
          rw [HNX.out, HNN.out]
          have := HPO.out
          have ht := HTZ.out
          obtain ⟨r, t⟩ := P
          simp only [] at ht
          subst ht
          exact this
        case measure => simp [intOf]; omega
    · obtain rfl : k = l.length := by omega
      have htl : l.take l.length = l := List.take_length
      rw [htl] at HPO
      clear htl
      go_wp2_with fail
      go_ret
      exact ⟨rfl, HBR.out, HPO.out⟩
end Go.Proofs.Ytmkbleeideddkaa
