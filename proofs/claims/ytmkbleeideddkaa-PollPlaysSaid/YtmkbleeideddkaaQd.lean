/- The reference: New. -/
import Derived.Test.YtmkbleeideddkaaQc
import Derived.Deep.RegionLaw
set_option linter.unusedVariables false
set_option linter.unusedSimpArgs false
namespace Go.Proofs.Ytmkbleeideddkaa
open Go.RowKit

section
variable {P : Program}
theorem step_append_own {w : World} {ops : Array Oper} {o : Oper} {a : Act} {K : Act → World → Prop} {Q : Exit → Act → World → Prop} {E : Prop} (hgd : o.guard = none) (s x : Operand) (t : TypeId)
    (ho : o.op = .call { callee := .builtin .append, args := #[s, x], argTypes := #[t, t] })
    (base : Nat) (e : TypeId) (i : TypeInfo) (z : Value) (size bytes : Nat) (ht : P.underlying t = some (.slice e)) (hi : P.info? e = some i) (hz : i.zero = some z)
    (hsize : i.size = size) (hby : i.bytes = bytes) (hzs : z.cells.size = size) (hsz : 0 < size)
    (v : Value) (n : Nat) (xs : List Value) (hs : a.eval s = v) (hown : w.ownsRow base e size v n xs)
    (ad : Addr) (m c : Nat) (news : List Value) (hx : a.eval x = .slice (some ad) m c) (hl : news.length = m * size) (hnews : ∀ j u, news[j]? = some u → w.cell? (ad.add j) = some u) (h1 : ∀ u ∈ news, u.oneCell' = true)
    (h63 : n + m ≤ maxLen) (hbytes : (n + m) * bytes ≤ 140737488355328) (hbase : base ≤ w.heap.size)
    (h : ∀ v' w', w'.ownsRow base e size v' (n + m) (xs ++ news) → w.grownBy w' v.ownBlock → K (a.put o.dst v') w') :
    if Region.wanted o (yielded ops a.tmps) = true then Oper.wp P o a w K Q else E := by
  have hw : Region.wanted o (yielded ops a.tmps) = true := by simp [Region.wanted, hgd]
  rw [if_pos hw]
  obtain ⟨v', w', hr, h2, h3, _⟩ := run_append_own (P := P) w base t o.type e i z size bytes ht hi hz hsize hby hzs hsz v n xs hown ad m c news hl hnews h1 h63 hbytes hbase
  unfold Oper.wp execOp
  simp only [ho, resolve, invoke, builtin, Sem.run_bind, Sem.run_pure, Result.andThen_ok, List.map_toArray, List.map_cons, List.map_nil, hs, hx, hr]
  exact h v' w' h2 h3
end
theorem Try.info42 : (Try.prog.info? 42).map (fun i => (i.zero, i.size, i.bytes)) = some (some (.agg #[.int .u8 0, .bool false, .int .i64 0]), 3, 16) := by kernel_rfl
theorem cells_three {w : World} {t : Nat} {u0 u1 u2 : Value} {fr : Nat × Nat} (b : Nat) (h : w.heap[b]? = some (.cells #[u0, u1, u2] t fr)) : ∀ (j : Nat) (u : Value), [u0, u1, u2][j]? = some u → w.cell? ((⟨b, 0, none⟩ : Addr).add j) = some u := by
  intro j u hu
  rcases j with _ | _ | _ | j
  · simp at hu; subst hu; exact blk_cell h 0
  · simp at hu; subst hu
    have : (⟨b, 0, none⟩ : Addr).add 1 = ⟨b, 1, none⟩ := rfl
    rw [this]
    exact blk_cell h 1
  · simp at hu; subst hu
    have : (⟨b, 0, none⟩ : Addr).add 2 = ⟨b, 2, none⟩ := rfl
    rw [this]
    exact blk_cell h 2
  · simp at hu
theorem ref_push {wr W1 w3 : World} {B h : Nat} {v v3 : Value} {P : PS} {p : PP} (r : RefIn wr B h v P) (hp : I64 p.since) (h39 : P.row.length + 1 ≤ 40) (hW : Below wr.heap.size wr W1) (hg : W1.grownBy w3 v.ownBlock) (ho : w3.ownsRow B 42 3 v3 (P.row.length + 1) (cells3 P.row ++ [.int .u8 p.addr, .bool p.dead, .int .i64 p.since])) :
    Kept B [40, 42] wr (w3.setCell ⟨h, 0, none⟩ v3) ∧ RefIn (w3.setCell ⟨h, 0, none⟩ v3) B h v3 ⟨P.row ++ [p], P.turn⟩ := by
  have hrow := own_below r.row hW
  have k1 : Kept B [42] W1 w3 := Kept.of_row hg (off_of_own hrow) (by simp)
  have hg2 := k1.blk (blk_below' r.blk hW) (by decide)
  have k2 : Kept B [40] w3 (w3.setCell ⟨h, 0, none⟩ v3) := Kept.of_grown (grown_set (grown_refl _ _) _ _) hg2 (by simp) r.ge
  refine ⟨((Kept.of_below hW).trans (k1.mono (by simp))).trans (k2.mono (by simp)), r.ge, ?_, ?_, by simpa using h39, ?_, ?_⟩
  · have := blk_set hg2 0 v3
    simpa using this
  · show World.ownsRow _ B 42 3 v3 (P.row ++ [p]).length (cells3 (P.row ++ [p]))
    rw [cells3_app, List.length_append]
    exact own_kept ho k2 (by decide)
  · have := r.tn
    show P.turn ≤ (P.row ++ [p]).length
    simp
    omega
  · intro q hq
    rcases List.mem_append.1 hq with hq | hq
    · exact r.sb q hq
    · simp at hq; subst hq; exact hp
def RNew (w : World) (h : Nat) (P : PS) (wr : World) : Prop := Below w.heap.size w wr ∧ ∃ v, RefIn wr w.heap.size h v P

set_option maxHeartbeats 4000000 in
set_option maxRecDepth 100000 in
theorem ref_new (w : World) (v : Value) (l : List UInt8) (h : ReadsB w v l) (hl : l.length ≤ 40) (hvc : ∀ A n c, v = .slice A n c → c ≤ 9223372036854775807) :
    Calls Try.prog 12 #[v] w fun e w' => e = .returned (.pointer (some ⟨w.heap.size, 0, none⟩)) ∧ RNew w w.heap.size (newF (intsOf l)) w' := by
  obtain ⟨A, c, rfl, hlc, hl2, hnil, hcell⟩ := h
  have hcc := hvc _ _ _ rfl
  obtain ⟨i0, hi, hz0, hz1, hz2⟩ := info_parts Try.info42
  have HC := Lib.hid hcell
  have HN := Lib.hid hnil
  clear hcell hnil hvc
  go_enter Try.func12, Try.ntmps12
  go_wp2_with fail
  go_loopw [4] (fun i wr => ∃ k : Nat, k ≤ l.length ∧ i = .int .i64 k ∧ RNew w w.heap.size (newF (intsOf (l.take k))) wr) (fun i _ => l.length - (intOf i).toNat)
  case atStart =>
    refine ⟨0, Nat.zero_le _, rfl, (Below.refl _ _).alloc (Nat.le_refl _) _, .slice none 0 0, ?_⟩
    exact ⟨Nat.le_refl _, blk_new _ _, World.ownsRow_nil _ _ _ _, by simp [newF, intsOf], by simp [newF], fun p hp => by simp [newF, intsOf] at hp⟩
  case round =>
    obtain ⟨k, hk, rfl, hbr, rv, hri⟩ := hrel
    have HBR := Lib.hid hbr
    have HRI := Lib.hid hri
    clear hbr hri
    by_cases hlt : k < l.length
    · obtain ⟨ad, rfl⟩ : ∃ ad, A = some ad := by
        cases A with
        | none => have := (HN.out rfl).1; subst this; simp at hlt
        | some ad => exact ⟨ad, rfl⟩
      obtain ⟨a, ha, ha255⟩ : ∃ a : Nat, a = (l.getD k 0).toNat ∧ a < 256 := ⟨_, rfl, (l.getD k 0).toNat_lt⟩
      have hca : w.cell? (ad.add k) = some (.int .u8 (a : Int)) := by
        refine HC.out ad rfl k _ ?_
        rw [ha]
        simp [bytesV, List.getElem?_eq_getElem hlt, List.getD]
      have hcr : wr.cell? (ad.add k) = some (.int .u8 (a : Int)) := (HBR.out.cell (World.block_lt_of_cell? w _ hca)).trans hca
      have hnx : newF (intsOf (l.take (k + 1))) = ⟨addF (newF (intsOf (l.take k))).row (a : Int), 0⟩ := by
        unfold newF
        rw [take_ints l k hlt, List.foldl_append, ← ha]
        rfl
      have hrl : (newF (intsOf (l.take k))).row.length ≤ k := by
        have h8 := fold_len (intsOf (l.take k)) []
        have h9 : (intsOf (l.take k)).length ≤ k := by simp [intsOf]; omega
        simp only [List.length_nil] at h8
        simp only [newF]
        omega
      have htz : (newF (intsOf (l.take k))).turn = 0 := rfl
      obtain ⟨P, hP⟩ : ∃ P, P = newF (intsOf (l.take k)) := ⟨_, rfl⟩
      rw [← hP] at HRI hnx hrl htz
      have HNX := Lib.hid hnx
      have HTZ := Lib.hid htz
      clear hca ha hnx hP htz
      have hsame : ∀ (hnn : addF P.row (a : Int) = P.row), RNew w w.heap.size (newF (intsOf (l.take (k + 1)))) wr := by
        intro hnn
        rw [HNX.out, hnn]
        have ht := HTZ.out
        obtain ⟨r, t⟩ := P
        simp only [] at ht
        subst ht
        exact ⟨HBR.out, rv, HRI.out⟩
      by_cases h1 : 0 < a
      · by_cases h2 : a < 32
        · have e2 : decide ((a : Int) < 32) = true := by simp; omega
          cases hf : findF P.row (a : Int) with
          | some i =>
            have HF := Lib.hid hf
            have HSM := Lib.hid (hsame (by unfold addF; rw [if_neg (by rw [hf]; simp)]))
            clear hf hsame
            go_wp2_with fail
            refine (rfind_any _ w.heap.size w.heap.size rv P (a : Int) HRI.out).mono ?_
            rintro e w2 ⟨rfl, rfl⟩
            unfold findV
            rw [HF.out]
            simp only []
            go_wp2_with fail
            go_roundw
            case rel => exact ⟨k + 1, by omega, by go_num, HSM.out⟩
            case measure => simp [intOf]; omega
          | none =>
            have hnn : addF P.row (a : Int) = P.row ++ [⟨a, false, 0⟩] := by unfold addF; rw [if_pos ⟨by omega, by omega, hf⟩]
            have HF := Lib.hid hf
            have HNN := Lib.hid hnn
            clear hf hnn hsame
            go_wp2_with fail
            refine (rfind_any _ w.heap.size w.heap.size rv P (a : Int) HRI.out).mono ?_
            rintro e w2 ⟨rfl, rfl⟩
            obtain ⟨Av, cv, rfl⟩ := own_slice HRI.out.row
            have g0 := blk_cell HRI.out.blk 0
            simp at g0
            have hgl := HRI.out.lt
            have hne : Hid (some w.heap.size ≠ (Value.slice Av P.row.length cv).ownBlock) := fun e => by have := own_ne HRI.out.row HRI.out.blk (by decide) w.heap.size e.symm; omega
            unfold findV
            rw [HF.out]
            go_upto_region 6 with fail
            have BW : Hid (Below w2.heap.size w2 ((w2.alloc (.cells #[.int .u8 (a : Int), .bool false, .int .i64 0] 42)).drew)) := ((Below.refl _ _).alloc (Nat.le_refl _) _).drew
            have OS : Hid (World.ownsRow ((w2.alloc (.cells #[.int .u8 (a : Int), .bool false, .int .i64 0] 42)).drew) w.heap.size 42 3 (.slice Av P.row.length cv) P.row.length (cells3 P.row)) := own_below HRI.out.row BW.out
            have SZ : Hid (w.heap.size ≤ ((w2.alloc (.cells #[.int .u8 (a : Int), .bool false, .int .i64 0] 42)).drew).heap.size) := Nat.le_trans (Nat.le_of_lt hgl) BW.out.size
            have RB : Hid (((w2.alloc (.cells #[.int .u8 (a : Int), .bool false, .int .i64 0] 42)).drew).heap[w2.heap.size]? = some (.cells #[.int .u8 (a : Int), .bool false, .int .i64 0] 42)) := blk_drew (blk_new _ _)
            have ONE : Hid (∀ u ∈ [(.int .u8 (a : Int) : Value), .bool false, .int .i64 0], u.oneCell' = true) := by show ∀ u ∈ _, _; simp [Value.oneCell']
            have MX : P.row.length + 1 ≤ maxLen := by unfold maxLen; omega
            have BY : (P.row.length + 1) * 16 ≤ 140737488355328 := by omega
            go_region_law
              ((first
                | (refine step_append_own rfl (.tmp 38) (.tmp 44) 38 rfl w.heap.size 42 i0 (.agg #[.int .u8 0, .bool false, .int .i64 0]) 3 16 Try.underlying38 hi hz0 hz1 hz2 rfl (by decide) (.slice Av P.row.length cv) P.row.length (cells3 P.row) rfl ?_ ⟨w2.heap.size, 0, none⟩ 1 1 [.int .u8 (a : Int), .bool false, .int .i64 0] rfl rfl ?_ ?_ MX BY ?_ ?_; exact OS.out; exact cells_three _ RB.out; exact ONE.out; exact SZ.out; intro v3 w3 ho3 hg3; obtain ⟨A3, c3, rfl⟩ := own_slice ho3; have HG3 := Lib.hid hg3; have HO3 := Lib.hid ho3; have hgg := blk_grown (blk_below' HRI.out.blk BW.out) hg3 hne.out; have g3 := blk_cell hgg 0; have f3 := blk_frozen hgg 0; simp at g3; clear hg3 ho3 hgg)))
            all_goals
              go_wp2_with fail
              go_roundw
              case rel =>
                have hpp := ref_push (p := ⟨a, false, 0⟩) HRI.out ⟨by show (-9223372036854775808 : Int) ≤ 0; omega, by show (0 : Int) ≤ _; omega⟩ (by omega) BW.out HG3.out HO3.out
                refine ⟨k + 1, by omega, by go_num, HBR.out.trans (hpp.1.below HBR.out.size), ?_⟩
                rw [HNX.out, HNN.out]
                have ht := HTZ.out
                obtain ⟨r, t⟩ := P
                simp only [] at ht
                subst ht
                exact ⟨_, hpp.2⟩
              case measure => simp [intOf]; omega
        · have e2 : decide ((a : Int) < 32) = false := by simp; omega
          have HSM := Lib.hid (hsame (by unfold addF; rw [if_neg (by omega)]))
          clear hsame
          go_wp2_with fail
          go_roundw
          case rel => exact ⟨k + 1, by omega, by go_num, HSM.out⟩
          case measure => simp [intOf]; omega
      · have HSM := Lib.hid (hsame (by unfold addF; rw [if_neg (by omega)]))
        clear hsame
        go_wp2_with fail
        go_roundw
        case rel => exact ⟨k + 1, by omega, by go_num, HSM.out⟩
        case measure => simp [intOf]; omega
    · obtain rfl : k = l.length := by omega
      have htl : l.take l.length = l := List.take_length
      rw [htl] at HRI
      clear htl
      go_wp2_with fail
      go_ret
      exact ⟨rfl, HBR.out, rv, HRI.out⟩
end Go.Proofs.Ytmkbleeideddkaa
