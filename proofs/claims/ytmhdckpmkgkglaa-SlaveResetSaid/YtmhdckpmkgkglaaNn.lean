/- The line: the first frame up comes to the master (op 7). -/
import Derived.Test.YtmhdckpmkgkglaaNm
import Derived.Test.YtmhdckpmkgkglaaNp
import Derived.Test.YtmhdckpmkgkglaaLs
set_option linter.unusedVariables false
set_option linter.unusedSimpArgs false
namespace Go.Proofs.Ytmhdckpmkgkglaa
open Go.RowKit

/-- Behind Heard: what it says, and the line with the master as it is then. -/
def HeardI (w : World) (B x gm gs : Nat) (vd vu : Value) (ds us : List (FR × Value)) (L : LS) (b : List UInt8) (c : Value) (w' : World) : Prop :=
  ∃ A2 c2 B', c = .slice A2 b.length c2 ∧ Kept B [77, 22, 43, 63, 29] w w' ∧ LineIn w' B x gm gs vd vu ds us L ∧ w'.ownsRow B' 5 1 (.slice A2 b.length c2) b.length (bytesV b)
theorem HeardI.line {w w1 : World} {B x gm gs : Nat} {vd vu c : Value} {ds us : List (FR × Value)} {L : LS} {b : List UInt8} (h : HeardI w B x gm gs vd vu ds us L b c w1) : LineIn w1 B x gm gs vd vu ds us L := by
  obtain ⟨_, _, _, _, _, h, _⟩ := h
  exact h
/-- What a region loads that takes the first frame up. -/
def HeadsM (x gm fk fo : Nat) (vu : Value) (f : FR) (u : Value) (w : World) : Prop :=
  w.cell? ⟨x, 0, none⟩ = some (.pointer (some ⟨gm, 0, none⟩)) ∧ w.cell? ⟨x, 3, none⟩ = some vu ∧ w.cell? ⟨fk, fo, none⟩ = some (.int .u8 f.addr) ∧ w.cell? ⟨fk, fo + 1, none⟩ = some (.int .u8 f.kind) ∧ w.cell? ⟨fk, fo + 2, none⟩ = some (.int .u8 f.sess) ∧ w.cell? ⟨fk, fo + 3, none⟩ = some (.int .u8 f.seq) ∧ w.cell? ⟨fk, fo + 4, none⟩ = some (.int .u8 f.ack) ∧ w.cell? ⟨fk, fo + 5, none⟩ = some u
theorem headsM_of {w : World} {B x gm gs fk fo n c : Nat} {vd vu u : Value} {ds ps : List (FR × Value)} {L : LS} {f : FR} (hv : vu = .slice (some ⟨fk, fo, none⟩) n c) (h : LineIn w B x gm gs vd vu ds ((f, u) :: ps) L) : HeadsM x gm fk fo vu f u w := by
  obtain ⟨k, o, c', A, cb, he, _, _, hu, q0, q1, q2, q3, q4, q5⟩ := h.u.head
  rw [hv] at he
  cases he
  exact ⟨blk_cell h.blk 0, blk_cell h.blk 3, q0, q1, q2, q3, q4, q5⟩

set_option maxHeartbeats 4000000 in
set_option maxRecDepth 100000 in
theorem heard_yes (w : World) (B x gm gs : Nat) (vd vu : Value) (f : FR) (u : Value) (ds ps : List (FR × Value)) (L : LS) (A T : Nat) (k : Int) (hk : k = 7 ∨ k = 8 ∨ k = 9) (hl : LineIn w B x gm gs vd vu ds ((f, u) :: ps) L) (hi : Inv L A T) (hs : L.offered ≤ 100000) :
    Calls Try.prog 22 #[.pointer (some ⟨x, 0, none⟩), .agg #[.int .i64 k]] w (DoesEnd w B x gm gs true (L.heardF).2) := by
  obtain ⟨Ad, cd, rfl⟩ := hl.d.row.slice
  obtain ⟨fk, fo, fc, Af, cb, rfl, hfc1, hfc2, rfl, q0, q1, q2, q3, q4, q5⟩ := hl.u.head
  have hup : L.up = f :: ps.map Prod.fst := by rw [← hl.ue]; rfl
  obtain ⟨A', h', M', b, hF, hb, hinv⟩ := hi.hears hup
  have HNL := Lib.hid (heardF_is hup hF hb)
  have HBB := Lib.hid hb
  have hal : Below w.heap.size w (w.alloc (.cells #[.int .i64 k] 59)) := (Below.refl _ _).alloc (Nat.le_refl _) _
  have HAL := Lib.hid hal
  have x0 := blk_cell hl.blk 0
  have x3 := blk_cell hl.blk 3
  simp at x0 x3
  have hxl := hl.lt
  have hfk : fk < w.heap.size := World.block_lt_of_cell? w _ q0
  have hfb : f.b.length ≤ 140737488355328 := by
    have hrow := hi.un
    rw [hup] at hrow
    obtain ⟨d, e, _, _, hok, _⟩ := hrow
    rcases hok.2.2.2.2.2 with q | ⟨q, _⟩
    · rw [q]; simp
    · rw [q, two_len]; omega
  have hep := hi.mep
  have hh1 := hi.h1
  have HL := Lib.hid (hl.below hal)
  have hcr : ∀ W, LineIn W B x gm gs (.slice Ad ds.length cd) (.slice (some ⟨fk, fo, none⟩) (ps.length + 1) fc) ds ((f, .slice Af f.b.length cb) :: ps) L → Calls Try.prog 27 #[.pointer (some ⟨gm, 0, none⟩), .agg #[.int .u8 f.addr, .int .u8 f.kind, .int .u8 f.sess, .int .u8 f.seq, .int .u8 f.ack, .slice Af f.b.length cb]] W fun e w' =>
      ∃ A2 c2, e = .returned (.tuple #[.slice A2 b.length c2, .bool true]) ∧ HeardI W B x gm gs (.slice Ad ds.length cd) (.slice (some ⟨fk, fo, none⟩) (ps.length + 1) fc) ds ((f, .slice Af f.b.length cb) :: ps) { L with M := M' } b (.slice A2 b.length c2) w' := by
    intro W hW
    obtain ⟨vW, hgW, _⟩ := hW.m.ex
    refine (masterK_heard W B gm L.M M' f Af f.b.length cb b true rfl hW.m (hW.u.reads hfb) (hW.u.notIn hgW (by decide)) (by omega) (by omega) hF).mono fun e w' hh => ?_
    obtain ⟨r, rfl, ho, hk, hm⟩ := hh
    obtain ⟨A2, c2, rfl⟩ := own_slice ho
    exact ⟨A2, c2, rfl, A2, c2, _, rfl, hk.mono (by simp), hW.master hk hm, ho⟩
  have HCR := Lib.hid hcr
  have hbl : b.length = 0 ∨ (b.length = 2 ∧ L.heard < L.offered) := by rcases hb with ⟨rfl, _⟩ | ⟨rfl, _, hlt⟩; exact .inl rfl; exact .inr ⟨rfl, hlt⟩
  obtain ⟨n, hn⟩ : ∃ n, n = b.length := ⟨_, rfl⟩
  have HN := Lib.hid hn
  have HBL := Lib.hid hbl
  clear hal hl hi hF hb hinv hcr hup hn hbl
  have ek0 : (k == 0) = false := by rcases hk with rfl | rfl | rfl <;> rfl
  have ek1 : (k == 1) = false := by rcases hk with rfl | rfl | rfl <;> rfl
  have ek2 : (k == 2) = false := by rcases hk with rfl | rfl | rfl <;> rfl
  have ek3 : (k == 3) = false := by rcases hk with rfl | rfl | rfl <;> rfl
  have ek4 : (k == 4) = false := by rcases hk with rfl | rfl | rfl <;> rfl
  have ek5 : (k == 5) = false := by rcases hk with rfl | rfl | rfl <;> rfl
  have ek6 : (k == 6) = false := by rcases hk with rfl | rfl | rfl <;> rfl
  go_enter Try.func22, Try.ntmps22
  go_upto_if 161 with fail
  go_cut [161] (fun v w' => v = .bool true ∧ w' = w.alloc (.cells #[.int .i64 k] 59))
  case first =>
    rcases hk with rfl | rfl | rfl
    · go_wp2_with fail
      go_meet
      case rel => exact ⟨rfl, rfl⟩
    · go_wp2_with fail
      go_meet
      case rel => exact ⟨rfl, rfl⟩
    · go_wp2_with fail
      go_meet
      case rel => exact ⟨rfl, rfl⟩
  case rest =>
  obtain ⟨rfl, rfl⟩ := hcut
  go_upto_region 31 with fail
  go_cut [8, 9] (fun c o w' => o = .bool true ∧ HeardI w B x gm gs (.slice Ad ds.length cd) (.slice (some ⟨fk, fo, none⟩) (ps.length + 1) fc) ds ((f, .slice Af f.b.length cb) :: ps) { L with M := M' } b c w')
  case first =>
   as_aux_lemma =>
    refine wp_region_held_drew (S := fun w' => HeadsM x gm fk fo (.slice (some ⟨fk, fo, none⟩) (ps.length + 1) fc) f (.slice Af f.b.length cb) w') (by kernel_rfl) (headsM_of rfl (HL.out.below (drew_below _))) (fun hS0 => ?_)
    refine wpAnyH_takeD (i := 0) (d := (some 172)) (v := (.pointer (some ⟨x, 0, none⟩))) rfl rfl (by kernel_rfl) (by kernel_rfl) (by kernel_rfl) (fun _ _ _ h => h) (Or.inl ⟨by rfl, fun w hw => by obtain ⟨h1, h2, h3, h4, h5, h6, h7, h8⟩ := hw; go_simp⟩) hS0 ?_
    try simp only [Act.put, List.setIfInBounds_toArray, List.set_cons_zero, List.set_cons_succ]
    refine wpAnyH_takeD (i := 1) (d := (some 173)) (v := (.pointer (some ⟨x, 0, none⟩))) rfl rfl (by kernel_rfl) (by kernel_rfl) (by kernel_rfl) (fun _ _ _ h => h) (Or.inl ⟨by rfl, fun w hw => by obtain ⟨h1, h2, h3, h4, h5, h6, h7, h8⟩ := hw; go_simp⟩) hS0 ?_
    try simp only [Act.put, List.setIfInBounds_toArray, List.set_cons_zero, List.set_cons_succ]
    refine wpAnyH_takeD (i := 2) (d := (some 174)) (v := (.pointer (some ⟨x, 0, none⟩))) rfl rfl (by kernel_rfl) (by kernel_rfl) (by kernel_rfl) (fun _ _ _ h => h) (Or.inl ⟨by rfl, fun w hw => by obtain ⟨h1, h2, h3, h4, h5, h6, h7, h8⟩ := hw; go_simp⟩) hS0 ?_
    try simp only [Act.put, List.setIfInBounds_toArray, List.set_cons_zero, List.set_cons_succ]
    refine wpAnyH_takeD (i := 3) (d := (some 175)) (v := (.pointer (some ⟨gm, 0, none⟩))) rfl rfl (by kernel_rfl) (by kernel_rfl) (by kernel_rfl) (fun _ _ _ h => h) (Or.inl ⟨by rfl, fun w hw => by obtain ⟨h1, h2, h3, h4, h5, h6, h7, h8⟩ := hw; go_simp⟩) hS0 ?_
    try simp only [Act.put, List.setIfInBounds_toArray, List.set_cons_zero, List.set_cons_succ]
    refine wpAnyH_takeD (i := 4) (d := (some 176)) (v := (.pointer (some ⟨x, 0, none⟩))) rfl rfl (by kernel_rfl) (by kernel_rfl) (by kernel_rfl) (fun _ _ _ h => h) (Or.inl ⟨by rfl, fun w hw => by obtain ⟨h1, h2, h3, h4, h5, h6, h7, h8⟩ := hw; go_simp⟩) hS0 ?_
    try simp only [Act.put, List.setIfInBounds_toArray, List.set_cons_zero, List.set_cons_succ]
    refine wpAnyH_takeD (i := 5) (d := (some 177)) (v := (.pointer (some ⟨x, 0, none⟩))) rfl rfl (by kernel_rfl) (by kernel_rfl) (by kernel_rfl) (fun _ _ _ h => h) (Or.inl ⟨by rfl, fun w hw => by obtain ⟨h1, h2, h3, h4, h5, h6, h7, h8⟩ := hw; go_simp⟩) hS0 ?_
    try simp only [Act.put, List.setIfInBounds_toArray, List.set_cons_zero, List.set_cons_succ]
    refine wpAnyH_takeD (i := 6) (d := (some 178)) (v := (.pointer (some ⟨x, 3, none⟩))) rfl rfl (by kernel_rfl) (by kernel_rfl) (by kernel_rfl) (fun _ _ _ h => h) (Or.inl ⟨by rfl, fun w hw => by obtain ⟨h1, h2, h3, h4, h5, h6, h7, h8⟩ := hw; go_simp⟩) hS0 ?_
    try simp only [Act.put, List.setIfInBounds_toArray, List.set_cons_zero, List.set_cons_succ]
    refine wpAnyH_takeD (i := 7) (d := (some 179)) (v := (.slice (some ⟨fk, fo, none⟩) (ps.length + 1) fc)) rfl rfl (by kernel_rfl) (by kernel_rfl) (by kernel_rfl) (fun _ _ _ h => h) (Or.inl ⟨by rfl, fun w hw => by obtain ⟨h1, h2, h3, h4, h5, h6, h7, h8⟩ := hw; go_simp⟩) hS0 ?_
    try simp only [Act.put, List.setIfInBounds_toArray, List.set_cons_zero, List.set_cons_succ]
    refine wpAnyH_takeD (i := 8) (d := (some 180)) (v := (.pointer (some ⟨fk, fo, none⟩))) rfl rfl (by kernel_rfl) (by kernel_rfl) (by kernel_rfl) (fun _ _ _ h => h) (Or.inl ⟨by rfl, fun w hw => by obtain ⟨h1, h2, h3, h4, h5, h6, h7, h8⟩ := hw; go_simp⟩) hS0 ?_
    try simp only [Act.put, List.setIfInBounds_toArray, List.set_cons_zero, List.set_cons_succ]
    refine wpAnyH_takeD (i := 9) (d := (some 181)) (v := (.agg #[.int .u8 f.addr, .int .u8 f.kind, .int .u8 f.sess, .int .u8 f.seq, .int .u8 f.ack, .slice Af f.b.length cb])) rfl rfl (by kernel_rfl) (by kernel_rfl) (by kernel_rfl) (fun _ _ _ h => h) (Or.inl ⟨by rfl, fun w hw => by obtain ⟨h1, h2, h3, h4, h5, h6, h7, h8⟩ := hw; go_simp⟩) hS0 ?_
    try simp only [Act.put, List.setIfInBounds_toArray, List.set_cons_zero, List.set_cons_succ]
    refine wpAnyH_ready (rs := [10]) (by kernel_rfl) (by simp) ?_
    refine AllReadyH.consD (d := (some 182)) rfl rfl (fun K hK => ?_) AllReadyH.nil
    go_simp
    go_at_call 27
    refine (HCR.out _ (HL.out.below (drew_below _))).mono ?_
    rintro e w1 ⟨A2, c2, rfl, hI⟩
    go_wp2_with fail
    refine hK.out _ _ (headsM_of rfl hI.line) (fun hS1 => ?_)
    clear hK K
    try simp only [Act.put, List.setIfInBounds_toArray, List.set_cons_zero, List.set_cons_succ]
    refine wpAnyH_takeD (i := 11) (d := (some 171)) (v := (.tuple #[.slice A2 b.length c2, .bool true])) rfl rfl (by kernel_rfl) (by kernel_rfl) (by kernel_rfl) (fun _ _ _ h => h) (Or.inl ⟨by rfl, fun w hw => by go_simp⟩) hS1 ?_
    try simp only [Act.put, List.setIfInBounds_toArray, List.set_cons_zero, List.set_cons_succ]
    refine wpAnyH_takeD (i := 12) (d := (some 183)) (v := (.slice A2 b.length c2)) rfl rfl (by kernel_rfl) (by kernel_rfl) (by kernel_rfl) (fun _ _ _ h => h) (Or.inl ⟨by rfl, fun w hw => by go_simp⟩) hS1 ?_
    try simp only [Act.put, List.setIfInBounds_toArray, List.set_cons_zero, List.set_cons_succ]
    refine wpAnyH_takeD (i := 13) (d := (some 184)) (v := (.bool true)) rfl rfl (by kernel_rfl) (by kernel_rfl) (by kernel_rfl) (fun _ _ _ h => h) (Or.inl ⟨by rfl, fun w hw => by go_simp⟩) hS1 ?_
    try simp only [Act.put, List.setIfInBounds_toArray, List.set_cons_zero, List.set_cons_succ]
    refine wpAnyH_takeD (i := 14) (d := (some 8)) (v := (.slice A2 b.length c2)) rfl rfl (by kernel_rfl) (by kernel_rfl) (by kernel_rfl) (fun _ _ _ h => h) (Or.inl ⟨by rfl, fun w hw => by go_simp⟩) hS1 ?_
    try simp only [Act.put, List.setIfInBounds_toArray, List.set_cons_zero, List.set_cons_succ]
    refine wpAnyH_takeD (i := 15) (d := (some 9)) (v := (.bool true)) rfl rfl (by kernel_rfl) (by kernel_rfl) (by kernel_rfl) (fun _ _ _ h => h) (Or.inl ⟨by rfl, fun w hw => by go_simp⟩) hS1 ?_
    try simp only [Act.put, List.setIfInBounds_toArray, List.set_cons_zero, List.set_cons_succ]
    refine wpAnyH_done (by kernel_rfl) ?_ _
    go_wp2_with fail
    go_meet
    case rel =>
      obtain ⟨A3, c3, B3, h1, h2, h3, h4⟩ := hI
      exact ⟨rfl, A3, c3, B3, h1, ((Kept.of_below HAL.out).trans (Kept.of_below (drew_below _))).trans h2, h3, h4⟩
  case rest =>
  obtain ⟨w2, hw2⟩ : ∃ w2, w2 = wc := ⟨wc, rfl⟩
  subst hw2
  obtain ⟨rfl, hI⟩ := hcut
  obtain ⟨A2, c2, B2, rfl, hk2, hl2, ho2⟩ := hI
  obtain ⟨v', hrun, hwt, hob⟩ := hl2.u.tail
  obtain ⟨Av, cv, rfl⟩ := hwt.row.slice
  have y3 := blk_cell hl2.blk 3
  have f3 := blk_frozen hl2.blk 3
  simp at y3
  have he := hl2.tailU hwt hob
  have he2 := he.2
  have HK3 : Hid (Kept B [77, 22, 43, 63, 29] w (w2.setCell ⟨x, 3, none⟩ (.slice Av ps.length cv))) := hk2.trans (he.1.mono (by simp))
  have ho3 := own_reads (he.1.own (by decide) ho2) (by have := HBL.out; omega)
  have HL3 := Lib.hid he2
  have HO3 := Lib.hid ho3
  clear hk2 hl2 ho2 hwt hob he he2 ho3
  obtain ⟨w3, hw3⟩ : ∃ w3, w3 = w2.setCell ⟨x, 3, none⟩ (.slice Av ps.length cv) := ⟨_, rfl⟩
  rw [← hw3] at HK3 HL3 HO3
  have HTL : Hid (ps.map Prod.fst = L.up.tail) := HL3.out.ue
  have e6 := blk_cell HL3.out.blk 6
  have e7 := blk_cell HL3.out.blk 7
  have g7 := blk_frozen HL3.out.blk 7
  simp at e6 e7
  rcases HBL.out with hn0 | ⟨hn2, hlt⟩
  · rw [hn0]
    have h' : h' = L.heard := by
      rcases HBB.out with ⟨_, q⟩ | ⟨q, _⟩
      · exact q
      · rw [q, two_len] at hn0; omega
    go_wp2_with fail
    go_ret
    refine ⟨rfl, ?_, ?_⟩
    · rw [← hw3]; exact HK3.out
    · rw [HNL.out, ← hw3, h', HTL.out]
      exact ⟨_, _, _, _, HL3.out⟩
  · as_aux_lemma =>
    obtain ⟨q, hq⟩ : ∃ q, q = L.heard % 256 := ⟨_, rfl⟩
    have hwr := wrap8 L.heard
    rw [← hq] at hwr
    have hbt : b = two L.heard 2 ∧ h' = L.heard + 1 := by
      rcases HBB.out with ⟨q, _⟩ | ⟨q, q2, _⟩
      · rw [q] at hn2; cases hn2
      · exact ⟨q, q2⟩
    have hcells : bytesV b = [.int .u8 (q : Int), .int .u8 2] := by rw [hbt.1, two_cells, hq]; rfl
    have hge : decide ((L.offered : Int) ≤ (L.heard : Int)) = false := by simp; omega
    have hhb : L.heard ≤ 100000 := by omega
    have hge2 : decide (L.offered ≤ L.heard) = false := by simp; omega
    have hge3 : (decide ((L.heard : Int) ≥ (L.offered : Int))) = false := by simp; omega
    have HCE := Lib.hid hcells
    have HBT := Lib.hid hbt
    have HN2 := Lib.hid hn2
    rw [hn2] at HO3 ⊢
    clear hcells hbt hq hn2 hlt
    go_upto_region 36 with fail
    rw [← hw3]
    clear hw3
    have hwr3 := HL3.out.wrote (L' := (L.heardF).2) (w1 := w3.setCell ⟨x, 7, none⟩ (.int .i64 ((L.heard : Int) + 1))) (grown_set (grown_refl _ _) _ _)
      (by have := blk_set HL3.out.blk 7 (.int .i64 ((L.heard : Int) + 1)); rw [HNL.out, HBT.out.2]; simpa using this) (by rw [HNL.out]) (by rw [HNL.out]) (by rw [HNL.out]) (by rw [HNL.out]; exact HTL.out)
    have hba : Below (w3.setCell ⟨x, 7, none⟩ (.int .i64 ((L.heard : Int) + 1))).heap.size (w3.setCell ⟨x, 7, none⟩ (.int .i64 ((L.heard : Int) + 1))) (((w3.setCell ⟨x, 7, none⟩ (.int .i64 ((L.heard : Int) + 1))).alloc (.cells #[.int .u8 (q : Int), .int .u8 2] 5)).drew) := ((Below.refl _ _).alloc (Nat.le_refl _) _).drew
    have HWN := Lib.hid (hwr3.2.below hba)
    have HKN : Hid (Kept B [77, 22, 43, 63, 29] w _) := (HK3.out.trans (hwr3.1.mono (by simp))).trans (Kept.of_below hba)
    clear hwr3 hba
    have kc : (convert 22 9 (.slice A2 2 c2)).run Try.prog w3.drew = .ok (.string ⟨b.toArray⟩) w3.drew := conv_bytes _ _ b (HO3.out.below (drew_below _))
    have kd : (convert 22 9 (.slice A2 2 c2)).run Try.prog (w3.alloc (.cells #[.int .u8 (q : Int), .int .u8 2] 5)).drew = .ok (.string ⟨b.toArray⟩) (w3.alloc (.cells #[.int .u8 (q : Int), .int .u8 2] 5)).drew := conv_bytes _ _ b (HO3.out.below (((Below.refl _ _).alloc (Nat.le_refl _) _).drew))
    have kl : (convert 22 9 (.slice (some ⟨w3.heap.size, 0, none⟩) 2 2)).run Try.prog (w3.alloc (.cells #[.int .u8 (q : Int), .int .u8 2] 5)).drew = .ok (.string ⟨b.toArray⟩) (w3.alloc (.cells #[.int .u8 (q : Int), .int .u8 2] 5)).drew := conv_bytes _ _ b (reads_two (blk_drew (blk_new _ _)) HCE.out HN2.out)
    have hx3 : x < w3.heap.size := HL3.out.lt
    refine wp_region_held_drew (S := fun w' => w'.cell? ⟨x, 7, none⟩ = some (.int .i64 (L.heard : Int)) ∧ w'.cell? ⟨x, 6, none⟩ = some (.int .i64 (L.offered : Int)) ∧ (convert 22 9 (.slice A2 2 c2)).run Try.prog w' = .ok (.string ⟨b.toArray⟩) w') (by kernel_rfl) ⟨blk_cell (blk_drew HL3.out.blk) 7, blk_cell (blk_drew HL3.out.blk) 6, kc⟩ (fun hS0 => ?_)
    refine wpAnyH_takeD (i := 0) (d := (some 198)) (v := (.pointer (some ⟨x, 0, none⟩))) rfl rfl (by kernel_rfl) (by kernel_rfl) (by kernel_rfl) (fun _ _ _ h => h) (Or.inl ⟨by rfl, fun w hw => by obtain ⟨h1, h2, h3⟩ := hw; go_simp⟩) hS0 ?_
    try simp only [Act.put, List.setIfInBounds_toArray, List.set_cons_zero, List.set_cons_succ]
    refine wpAnyH_takeD (i := 1) (d := (some 199)) (v := (.pointer (some ⟨x, 0, none⟩))) rfl rfl (by kernel_rfl) (by kernel_rfl) (by kernel_rfl) (fun _ _ _ h => h) (Or.inl ⟨by rfl, fun w hw => by obtain ⟨h1, h2, h3⟩ := hw; go_simp⟩) hS0 ?_
    try simp only [Act.put, List.setIfInBounds_toArray, List.set_cons_zero, List.set_cons_succ]
    refine wpAnyH_takeD (i := 2) (d := (some 200)) (v := (.pointer (some ⟨x, 7, none⟩))) rfl rfl (by kernel_rfl) (by kernel_rfl) (by kernel_rfl) (fun _ _ _ h => h) (Or.inl ⟨by rfl, fun w hw => by obtain ⟨h1, h2, h3⟩ := hw; go_simp⟩) hS0 ?_
    try simp only [Act.put, List.setIfInBounds_toArray, List.set_cons_zero, List.set_cons_succ]
    refine wpAnyH_takeD (i := 3) (d := (some 201)) (v := (.int .i64 (L.heard : Int))) rfl rfl (by kernel_rfl) (by kernel_rfl) (by kernel_rfl) (fun _ _ _ h => h) (Or.inl ⟨by rfl, fun w hw => by obtain ⟨h1, h2, h3⟩ := hw; go_simp⟩) hS0 ?_
    try simp only [Act.put, List.setIfInBounds_toArray, List.set_cons_zero, List.set_cons_succ]
    refine wpAnyH_takeD (i := 4) (d := (some 202)) (v := (.pointer (some ⟨x, 0, none⟩))) rfl rfl (by kernel_rfl) (by kernel_rfl) (by kernel_rfl) (fun _ _ _ h => h) (Or.inl ⟨by rfl, fun w hw => by obtain ⟨h1, h2, h3⟩ := hw; go_simp⟩) hS0 ?_
    try simp only [Act.put, List.setIfInBounds_toArray, List.set_cons_zero, List.set_cons_succ]
    refine wpAnyH_takeD (i := 5) (d := (some 203)) (v := (.pointer (some ⟨x, 0, none⟩))) rfl rfl (by kernel_rfl) (by kernel_rfl) (by kernel_rfl) (fun _ _ _ h => h) (Or.inl ⟨by rfl, fun w hw => by obtain ⟨h1, h2, h3⟩ := hw; go_simp⟩) hS0 ?_
    try simp only [Act.put, List.setIfInBounds_toArray, List.set_cons_zero, List.set_cons_succ]
    refine wpAnyH_takeD (i := 6) (d := (some 204)) (v := (.pointer (some ⟨x, 6, none⟩))) rfl rfl (by kernel_rfl) (by kernel_rfl) (by kernel_rfl) (fun _ _ _ h => h) (Or.inl ⟨by rfl, fun w hw => by obtain ⟨h1, h2, h3⟩ := hw; go_simp⟩) hS0 ?_
    try simp only [Act.put, List.setIfInBounds_toArray, List.set_cons_zero, List.set_cons_succ]
    refine wpAnyH_takeD (i := 7) (d := (some 205)) (v := (.int .i64 (L.offered : Int))) rfl rfl (by kernel_rfl) (by kernel_rfl) (by kernel_rfl) (fun _ _ _ h => h) (Or.inl ⟨by rfl, fun w hw => by obtain ⟨h1, h2, h3⟩ := hw; go_simp⟩) hS0 ?_
    try simp only [Act.put, List.setIfInBounds_toArray, List.set_cons_zero, List.set_cons_succ]
    refine wpAnyH_takeD (i := 8) (d := (some 206)) (v := (.bool false)) rfl rfl (by kernel_rfl) (by kernel_rfl) (by kernel_rfl) (fun _ _ _ h => h) (Or.inl ⟨by rfl, fun w hw => by obtain ⟨h1, h2, h3⟩ := hw; go_simp⟩) hS0 ?_
    try simp only [Act.put, List.setIfInBounds_toArray, List.set_cons_zero, List.set_cons_succ]
    refine wpAnyH_takeD (i := 9) (d := (some 207)) (v := (.bool false)) rfl rfl (by kernel_rfl) (by kernel_rfl) (by kernel_rfl) (fun _ _ _ h => h) (Or.inl ⟨by rfl, fun w hw => by obtain ⟨h1, h2, h3⟩ := hw; go_simp⟩) hS0 ?_
    try simp only [Act.put, List.setIfInBounds_toArray, List.set_cons_zero, List.set_cons_succ]
    refine wpAnyH_takeD (i := 10) (d := (some 208)) (v := (.slice A2 2 c2)) rfl rfl (by kernel_rfl) (by kernel_rfl) (by kernel_rfl) (fun _ _ _ h => h) (Or.inl ⟨by rfl, fun w hw => by obtain ⟨h1, h2, h3⟩ := hw; go_simp⟩) hS0 ?_
    try simp only [Act.put, List.setIfInBounds_toArray, List.set_cons_zero, List.set_cons_succ]
    refine wpAnyH_takeD (i := 11) (d := (some 209)) (v := (.string ⟨b.toArray⟩)) rfl rfl (by kernel_rfl) (by kernel_rfl) (by kernel_rfl) (fun _ _ _ h => h) (Or.inl ⟨by rfl, fun w hw => by obtain ⟨h1, h2, h3⟩ := hw; go_simp⟩) hS0 ?_
    try simp only [Act.put, List.setIfInBounds_toArray, List.set_cons_zero, List.set_cons_succ]
    refine wpAnyH_takeD (i := 12) (d := (some 210)) (v := (.pointer (some ⟨x, 0, none⟩))) rfl rfl (by kernel_rfl) (by kernel_rfl) (by kernel_rfl) (fun _ _ _ h => h) (Or.inl ⟨by rfl, fun w hw => by obtain ⟨h1, h2, h3⟩ := hw; go_simp⟩) hS0 ?_
    try simp only [Act.put, List.setIfInBounds_toArray, List.set_cons_zero, List.set_cons_succ]
    refine wpAnyH_takeD (i := 13) (d := (some 211)) (v := (.pointer (some ⟨x, 0, none⟩))) rfl rfl (by kernel_rfl) (by kernel_rfl) (by kernel_rfl) (fun _ _ _ h => h) (Or.inl ⟨by rfl, fun w hw => by obtain ⟨h1, h2, h3⟩ := hw; go_simp⟩) hS0 ?_
    try simp only [Act.put, List.setIfInBounds_toArray, List.set_cons_zero, List.set_cons_succ]
    refine wpAnyH_takeD (i := 14) (d := (some 212)) (v := (.pointer (some ⟨x, 7, none⟩))) rfl rfl (by kernel_rfl) (by kernel_rfl) (by kernel_rfl) (fun _ _ _ h => h) (Or.inl ⟨by rfl, fun w hw => by obtain ⟨h1, h2, h3⟩ := hw; go_simp⟩) hS0 ?_
    try simp only [Act.put, List.setIfInBounds_toArray, List.set_cons_zero, List.set_cons_succ]
    refine wpAnyH_takeD (i := 15) (d := (some 213)) (v := (.int .i64 (L.heard : Int))) rfl rfl (by kernel_rfl) (by kernel_rfl) (by kernel_rfl) (fun _ _ _ h => h) (Or.inl ⟨by rfl, fun w hw => by obtain ⟨h1, h2, h3⟩ := hw; go_simp⟩) hS0 ?_
    try simp only [Act.put, List.setIfInBounds_toArray, List.set_cons_zero, List.set_cons_succ]
    refine wpAnyH_takeD (i := 16) (d := (some 214)) (v := (.int .u8 (q : Int))) rfl rfl (by kernel_rfl) (by kernel_rfl) (by kernel_rfl) (fun _ _ _ h => h) (Or.inl ⟨by rfl, fun w hw => by obtain ⟨h1, h2, h3⟩ := hw; go_simp⟩) hS0 ?_
    try simp only [Act.put, List.setIfInBounds_toArray, List.set_cons_zero, List.set_cons_succ]
    refine wpAnyH_ready (rs := [17]) (by kernel_rfl) (by simp) ?_
    refine AllReadyH.consD (d := (some 215)) rfl rfl (fun K hK => ?_) AllReadyH.nil
    go_simp
    refine hK.out _ _ ⟨blk_cell (blk_drew (blk_alloc HL3.out.blk _)) 7, blk_cell (blk_drew (blk_alloc HL3.out.blk _)) 6, kd⟩ (fun hS1 => ?_)
    clear hK K
    try simp only [Act.put, List.setIfInBounds_toArray, List.set_cons_zero, List.set_cons_succ]
    refine wpAnyH_mono (S' := fun w' => (w'.cell? ⟨x, 7, none⟩ = some (.int .i64 (L.heard : Int)) ∧ w'.cell? ⟨x, 6, none⟩ = some (.int .i64 (L.offered : Int)) ∧ (convert 22 9 (.slice A2 2 c2)).run Try.prog w' = .ok (.string ⟨b.toArray⟩) w') ∧ (convert 22 9 (.slice (some ⟨w3.heap.size, 0, none⟩) 2 2)).run Try.prog w' = .ok (.string ⟨b.toArray⟩) w') (fun _ h => h.1) ?_
    have hS2 := And.intro hS1 kl
    refine wpAnyH_takeD (i := 18) (d := (some 216)) (v := (.string ⟨b.toArray⟩)) rfl rfl (by kernel_rfl) (by kernel_rfl) (by kernel_rfl) (fun _ _ _ h => h) (Or.inl ⟨by rfl, fun w hw => by obtain ⟨⟨h1, h2, h3⟩, h4⟩ := hw; go_simp⟩) hS2 ?_
    try simp only [Act.put, List.setIfInBounds_toArray, List.set_cons_zero, List.set_cons_succ]
    refine wpAnyH_takeD (i := 19) (d := (some 217)) (v := (.bool false)) rfl rfl (by kernel_rfl) (by kernel_rfl) (by kernel_rfl) (fun _ _ _ h => h) (Or.inl ⟨by rfl, fun w hw => by obtain ⟨⟨h1, h2, h3⟩, h4⟩ := hw; go_simp⟩) hS2 ?_
    try simp only [Act.put, List.setIfInBounds_toArray, List.set_cons_zero, List.set_cons_succ]
    refine wpAnyH_takeD (i := 20) (d := (some 218)) (v := (.bool false)) rfl rfl (by kernel_rfl) (by kernel_rfl) (by kernel_rfl) (fun _ _ _ h => h) (Or.inl ⟨by rfl, fun w hw => by obtain ⟨⟨h1, h2, h3⟩, h4⟩ := hw; go_simp⟩) hS2 ?_
    try simp only [Act.put, List.setIfInBounds_toArray, List.set_cons_zero, List.set_cons_succ]
    refine wpAnyH_done (by kernel_rfl) ?_ _
    go_wp2_with fail
    go_ret
    exact ⟨rfl, HKN.out, _, _, _, _, HWN.out⟩
end Go.Proofs.Ytmhdckpmkgkglaa
