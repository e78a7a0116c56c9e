/- The reference's Put. -/
import Derived.Test.YtcdanimdkkhamaaWv
set_option linter.unusedVariables false
set_option linter.unusedSimpArgs false
namespace Go.Proofs.Ytcdanimdkkhamaa
open Go.RowKit

theorem Try.info62 : (Try.prog.info? 62).map (fun i => (i.zero, i.size, i.bytes)) = some (some (.agg #[.string ⟨#[]⟩, .int .i64 0]), 2, 24) := by kernel_rfl

section
variable {P : Program} {w : World}
theorem step_append_src {ops : Array Oper} {o : Oper} {a : Act} {K : Act → World → Prop} {Q : Exit → Act → World → Prop} {E : Prop} (hgd : o.guard = none) (s x : Operand) (t : TypeId)
    (ho : o.op = .call { callee := .builtin .append, args := #[s, x], argTypes := #[t, t] })
    (base : Nat) (e : TypeId) (i : TypeInfo) (z : Value) (size bytes : Nat) (ht : P.underlying t = some (.slice e)) (hi : P.info? e = some i) (hz : i.zero = some z)
    (hsize : i.size = size) (hby : i.bytes = bytes) (hzs : z.cells.size = size) (hsz : 0 < size)
    (v : Value) (n : Nat) (xs : List Value) (hs : a.eval s = v) (hown : w.ownsRow base e size v n xs) (B : Nat) (vs : Value) (m : Nat) (ys : List Value) (hx : a.eval x = vs) (hsrc : OffRow w B e size vs m ys)
    (h1 : ∀ u ∈ ys, u.oneCell' = true) (h63 : n + m ≤ maxLen) (hbytes : (n + m) * bytes ≤ 140737488355328) (hbase : base ≤ w.heap.size)
    (h : ∀ v' w', w'.ownsRow base e size v' (n + m) (xs ++ ys) → w.grownBy w' v.ownBlock → K (a.put o.dst v') w') :
    if Region.wanted o (yielded ops a.tmps) = true then Oper.wp P o a w K Q else E := by
  have hw : Region.wanted o (yielded ops a.tmps) = true := by simp [Region.wanted, hgd]
  rw [if_pos hw]
  have hrun : ∃ v' w', (Builtin.append_ #[t, t] o.type #[v, vs]).run P w = .ok v' w' ∧ w'.ownsRow base e size v' (n + m) (xs ++ ys) ∧ w.grownBy w' v.ownBlock := by
    rcases hsrc.2 with ⟨rfl, rfl⟩ | ⟨g, o', cap, cur, rfl, hb, hg, hnc, hcm, hcs, htake⟩
    · have hy : ys = [] := List.eq_nil_of_length_eq_zero (by simpa using hsrc.1)
      subst hy
      refine ⟨v, w, run_append_owned_none (P := P) (w := w) base t o.type e i size ht hi v n xs hown, ?_, grown_refl _ _⟩
      simpa using hown
    · have hnews : ∀ j u, ys[j]? = some u → w.cell? ((⟨g, o' * size, none⟩ : Addr).add j) = some u := by
        intro j u hu
        rw [Addr.add_lit, blk_cell hg]
        rw [← htake] at hu
        have hj : j < m * size := by
          have := (List.getElem?_eq_some_iff.1 hu).1
          simp at this
          omega
        rw [List.getElem?_take, if_pos hj, List.getElem?_drop] at hu
        rw [← hu]
        simp
      obtain ⟨v', w', r1, r2, r3, _⟩ := run_append_own (P := P) w base t o.type e i z size bytes ht hi hz hsize hby hzs hsz v n xs hown ⟨g, o' * size, none⟩ m cap ys hsrc.1 hnews h1 h63 hbytes hbase
      exact ⟨v', w', r1, r2, r3⟩
  obtain ⟨v', w', hr, h2, h3⟩ := hrun
  unfold Oper.wp execOp
  simp only [ho, resolve, invoke, builtin, Sem.run_bind, Sem.run_pure, Result.andThen_ok, List.map_toArray, List.map_cons, List.map_nil, hs, hx, hr]
  exact h v' w' h2 h3
end
theorem own_empty {w : World} {k t base size : Nat} (h : w.heap[k]? = some (.cells #[] t (0, 0))) (hk : base ≤ k) : w.ownsRow base t size (.slice (some ⟨k, 0, none⟩) 0 0) 0 [] :=
  ⟨by simp, .inr ⟨k, 0, #[], rfl, hk, h, Nat.le_refl _, Nat.zero_le _, by simp, by simp⟩⟩
theorem cells2_one (l : List (Value × Nat)) (h : ∀ p ∈ l, p.1.oneCell' = true) : ∀ u ∈ cells2 l, u.oneCell' = true := by
  induction l with
  | nil => intro u hu; simp [cells2] at hu
  | cons p r ih =>
    obtain ⟨v, n⟩ := p
    intro u hu
    simp only [cells2, List.mem_cons] at hu
    rcases hu with rfl | rfl | hu
    · exact h (u, n) (by simp)
    · rfl
    · exact ih (fun p hp => h p (List.mem_cons_of_mem _ hp)) u hu
def RPutEnd (w : World) (B g room : Nat) (n : Int) (l : List (List UInt8 × Nat)) (e : Ending) (w' : World) : Prop := e = .returned (.int .i64 n) ∧ w.grownBy w' (some g) ∧ RefAt w' B g room l

set_option maxHeartbeats 2000000 in
theorem rput_full (w : World) (B g room : Nat) (l : List (List UInt8 × Nat)) (f : FT) (b : List UInt8) (hw : RefAt w B g room l) (hn : f.n ≤ 9223372036854775807) (hfb : f.b.length ≤ 9223372036854775807) (hx0 : 0 ≤ f.x) (hx1 : f.x ≤ 255) (hl : b.length ≤ 200)
    (hll : l.length ≤ 10000) (hF : room < l.length + (f.of b).length) :
    Calls Try.prog 18 #[.pointer (some ⟨g, 0, none⟩), strV b, refV f] w (RPutEnd w B g room 5 l) := by
  obtain ⟨vw, hg, ho⟩ := hw.ex
  obtain ⟨Aw, cw, rfl⟩ := ho.slice
  have HW := Lib.hid hw
  have HG := Lib.hid hg
  have hlt := hw.lt
  have h2 := FT.of_len f b
  clear hw hg ho
  unfold refV strV
  go_enter Try.func18, Try.ntmps18
  go_wp2_with fail
  refine (refof_any _ f b hn hfb hx0 hx1 hl).mono ?_
  rintro e w1 ⟨vA, rfl, hA, hb1, _⟩
  obtain ⟨A1, c1, rfl, _⟩ := hA
  have hg1 := blk_below' (blk_alloc HG.out _) hb1
  have g0 := blk_cell hg1 0
  have g1 := blk_cell hg1 1
  simp at g0 g1
  have HB1 : Hid (Below w.heap.size w w1) := ((Below.refl _ _).alloc (Nat.le_refl _) _).trans (hb1.mono (by simp))
  have hd : decide (room < l.length + (f.of b).length) = true := by simpa using hF
  clear hb1 hg1
  go_wp2_with fail
  go_quiet (fail)
  go_wp2_with fail
  go_ret
  have hk : Below w.heap.size w w1.drew := HB1.out.drew
  first
    | exact ⟨rfl, grown_below HB1.out.drew _, HW.out.below HB1.out.drew⟩
    | exact ⟨rfl, grown_below (below_drewN HB1.out _) _, HW.out.below (below_drewN HB1.out _)⟩

/-- What a round of the reference's Put has. -/
def RPutI (w : World) (B g room : Nat) (l : List (List UInt8 × Nat)) (ls : List (List UInt8)) (h : Nat) (vA : Value) (f : FT) (k : Nat) (wr : World) : Prop :=
  w.grownBy wr (some g) ∧ RefAt wr B g room (l ++ (heldF ls h).take k) ∧ ReadsS wr vA ls ∧ wr.heap[w.heap.size]? = some (.cells #[.int .i64 f.kind, .int .i64 f.n, .int .u8 f.x, strV f.b] 40 (0, 0))
theorem ReadsS.grown {w w1 : World} {v : Value} {ls : List (List UInt8)} {g : Nat} (h : ReadsS w v ls) (hk : w.grownBy w1 (some g)) (hn : ∀ A n c, v = .slice (some A) n c → A.block ≠ g) : ReadsS w1 v ls := by
  obtain ⟨A, c, rfl, h2, h3, h4⟩ := h
  refine ⟨A, c, rfl, h2, h3, fun ad he j u hu => ?_⟩
  subst he
  have h5 := h4 ad rfl j u hu
  have hlt := World.block_lt_of_cell? w _ h5
  have hbk : (ad.add j).block = ad.block := by unfold Addr.add; split <;> rfl
  have := hn ad _ _ rfl
  exact (World.cell?_of_block (hk.block _ hlt (by rw [hbk]; simpa using this))).trans h5

/-- The copied row, with one behind it. -/
theorem ref_push {wr w2 w3 : World} {B g room h : Nat} {b : List UInt8} {l : List (List UInt8 × Nat)} {v v1 v2 : Value} (hB : B ≤ g) (hg : wr.heap[g]? = some (.cells #[.int .i64 (room : Int), v] 50 (0, 0))) (hrm : room ≤ 9223372036854775807)
    (hh : ∀ p ∈ l, p.2 ≤ 16) (hh2 : h ≤ 16) (hb2 : Below wr.heap.size wr w2) (hgr : w2.grownBy w3 v1.ownBlock) (hv1 : ∀ k, v1.ownBlock = some k → wr.heap.size ≤ k)
    (ho : OffRow w3 wr.heap.size 62 2 v2 (l.length + 1) (cells2 (l.map fun p => (strV p.1, p.2)) ++ [strV b, .int .i64 (h : Int)])) :
    wr.grownBy (w3.setCell ⟨g, 1, none⟩ v2) (some g) ∧ RefAt (w3.setCell ⟨g, 1, none⟩ v2) B g room (l ++ [(b, h)]) := by
  have hb3 : Below wr.heap.size wr w3 := hb2.grown hgr hb2.size hv1
  have hg3 := blk_below' hg hb3
  have hlt := blk_lt hg
  refine ⟨grown_set (grown_below hb3 _) _ _, hB, hrm, fun p hp => ?_, v2, ?_, ?_⟩
  · rcases List.mem_append.1 hp with h1 | h1
    · exact hh p h1
    · simp at h1; subst h1; exact hh2
  · have := blk_set hg3 1 v2
    simpa using this
  · have e1 : cells2 ((l ++ [(b, h)]).map fun p => (strV p.1, p.2)) = cells2 (l.map fun p => (strV p.1, p.2)) ++ [strV b, .int .i64 (h : Int)] := by
      rw [List.map_append, cells2_app]; rfl
    have e2 : (l ++ [(b, h)]).length = l.length + 1 := by simp
    rw [e1, e2]
    exact off_lower (ho.keep fun k hk => Below.heap_setCell _ _ _ _ (ho.ne hg3 (by decide) k hk)) (by omega)

set_option maxHeartbeats 4000000 in
theorem rput_ok (w : World) (B g room : Nat) (l : List (List UInt8 × Nat)) (f : FT) (b : List UInt8) (hw : RefAt w B g room l) (hn : f.n ≤ 9223372036854775807) (hfb : f.b.length ≤ 9223372036854775807) (hx0 : 0 ≤ f.x) (hx1 : f.x ≤ 255) (hl : b.length ≤ 200)
    (hll : l.length ≤ 10000) (hF : l.length + (f.of b).length ≤ room) :
    Calls Try.prog 18 #[.pointer (some ⟨g, 0, none⟩), strV b, refV f] w (RPutEnd w B g room 0 (l ++ heldF (f.of b) f.held)) := by
  obtain ⟨vw, hg, ho⟩ := hw.ex
  obtain ⟨Aw, cw, rfl⟩ := ho.slice
  have HW := Lib.hid hw
  have HG := Lib.hid hg
  have hlt := hw.lt
  have h2 := FT.of_len f b
  obtain ⟨p, hp, hp1⟩ : ∃ p : Nat, max f.n 0 = (p : Int) ∧ p = f.n.toNat := ⟨f.n.toNat, by omega, rfl⟩
  have hple : p ≤ 9223372036854775807 := by omega
  have HP := Lib.hid hp
  have HP1 := Lib.hid hp1
  obtain ⟨i0, hi, hz0, hz1, hz2⟩ := info_parts Try.info62
  clear hw hg ho hp hp1
  unfold refV strV
  go_enter Try.func18, Try.ntmps18
  go_wp2_with fail
  refine (refof_any _ f b hn hfb hx0 hx1 hl).mono ?_
  rintro e w1 ⟨vA, rfl, hA, hb1, hnew, _⟩
  have HA := Lib.hid hA
  obtain ⟨A1, c1, rfl, hc1, hnil, _⟩ := hA
  have hg1 := blk_below' (blk_alloc HG.out _) hb1
  have hx1' := blk_below' (blk_new _ _) hb1
  have g0 := blk_cell hg1 0
  have g1 := blk_cell hg1 1
  simp at g0 g1
  have HB1 : Hid (Below w.heap.size w w1) := ((Below.refl _ _).alloc (Nat.le_refl _) _).trans (hb1.mono (by simp))
  have HX1 : Hid (w1.heap[w.heap.size]? = some (.cells #[.int .i64 f.kind, .int .i64 f.n, .int .u8 f.x, strV f.b] 40 (0, 0))) := hx1'
  have HNEW := Lib.hid hnew
  have HNIL := Lib.hid hnil
  have hd : decide (room < l.length + (f.of b).length) = false := by simpa using hF
  clear hb1 hg1 hx1' hnew hnil
  go_wp2_with fail
  go_quiet (fail)
  go_wp2_with fail
  go_loopw [8] (fun i wr => ∃ k : Nat, k ≤ (f.of b).length ∧ i = .int .i64 k ∧ RPutI w B g room l (f.of b) f.held (.slice A1 (f.of b).length c1) f k wr) (fun i _ => (f.of b).length - (intOf i).toNat)
  case atStart => exact ⟨0, Nat.zero_le _, rfl, grown_below (below_drewN HB1.out _) _, by simpa using HW.out.below (below_drewN HB1.out _), HA.out.below (below_drewN (Below.refl _ _) _), HX1.out⟩
  case round =>
    obtain ⟨k, hk, rfl, hgr, hwr, har, hbx⟩ := hrel
    have HGR := Lib.hid hgr
    have HWR := Lib.hid hwr
    have HAR := Lib.hid har
    have HBX := Lib.hid hbx
    clear hgr hwr har hbx HW HB1 HA HX1 g0 g1
    by_cases hlt2 : k < (f.of b).length
    · obtain ⟨x, hx⟩ : ∃ x, (f.of b)[k]? = some x := ⟨_, List.getElem?_eq_getElem hlt2⟩
      obtain ⟨q, hq, hq16⟩ : ∃ q : Nat, q = (if k = 0 then f.held else 0) ∧ q ≤ 16 := ⟨_, rfl, by have := FT.held_le f; split <;> omega⟩
      obtain ⟨ad, rfl⟩ : ∃ ad, A1 = some ad := by
        cases A1 with
        | none => have := HNIL.out rfl; rw [this] at hlt2; simp at hlt2
        | some ad => exact ⟨ad, rfl⟩
      have hc2 : wr.cell? (ad.add k) = some (strV x) := by
        obtain ⟨_, _, h3, _, _, h4⟩ := HAR.out
        cases h3
        exact h4 ad rfl k (strV x) (by rw [List.getElem?_map, hx]; rfl)
      unfold strV at hc2
      have x0 := blk_cell HBX.out 0
      have x1 := blk_cell HBX.out 1
      simp at x0 x1
      have hwl : w.heap.size < wr.heap.size := blk_lt HBX.out
      have hgl := HWR.out.lt
      have HQ := Lib.hid hq
      have HX := Lib.hid hx
      clear hq hx
      obtain ⟨cb, hcb⟩ : ∃ cb : Bool, cb = decide (f.kind = 3 ∧ k = 0) := ⟨_, rfl⟩
      have HCB := Lib.hid hcb
      clear hcb
      go_upto_region 8 with fail
      go_cut [43] (fun s w' => s = .bool cb ∧ wr.alloc (.cells #[.string ⟨x.toArray⟩, .int .i64 0] 62) = w')
      case first =>
        by_cases hk3 : f.kind = 3
        · have e3 : (f.kind == 3) = true := by simpa using hk3
          by_cases hk0 : k = 0
          · have hcc : cb = true := by rw [HCB.out]; simp [hk3, hk0]
            subst hcc
            have e4 : ((k : Int) == 0) = true := by simp; omega
            clear hk3 hk0
            go_wp2_with fail
            go_meet
            case rel => exact ⟨rfl, rfl⟩
          · have hcc : cb = false := by rw [HCB.out]; simp [hk0]
            subst hcc
            have e4 : ((k : Int) == 0) = false := by simp; omega
            clear hk3
            go_wp2_with fail
            go_meet
            case rel => exact ⟨rfl, rfl⟩
        · have e3 : (f.kind == 3) = false := by simpa using hk3
          have hcc : cb = false := by rw [HCB.out]; simp [hk3]
          subst hcc
          go_wp2_with fail
          go_meet
          case rel => exact ⟨rfl, rfl⟩
      case rest =>
        obtain ⟨rfl, rfl⟩ := hcut
        go_step
        go_cut [] (fun w' => Below wr.heap.size wr w' ∧ w'.heap[wr.heap.size]? = some (.cells #[.string ⟨x.toArray⟩, .int .i64 (q : Int)] 62 (0, 0)))
        case first =>
          cases cb with
          | true =>
            have hkk := HCB.out
            simp at hkk
            obtain ⟨hk3, hk0⟩ := hkk
            have hq' : q = min p 16 := by have := HQ.out; rw [if_pos hk0] at this; rw [this]; unfold FT.held; rw [if_pos hk3]; unfold FT.pos; rw [HP1.out]
            have hp' := HP.out
            clear hk3 hk0
            by_cases hn0 : f.n < 0
            · obtain rfl : q = 0 := by omega
              clear hq' hp'
              go_wp2_with fail
              go_meet
              case rel => exact ⟨(Below.refl _ _).alloc (Nat.le_refl _) _, blk_new _ _⟩
            · by_cases h16 : 16 < f.n
              · obtain rfl : q = 16 := by omega
                clear hq' hp'
                go_wp2_with fail
                go_meet
                case rel => exact ⟨(Below.refl _ _).alloc (Nat.le_refl _) _, blk_new _ _⟩
              · have hfn : f.n = (q : Int) := by omega
                have HFN := Lib.hid hfn
                clear hq' hp' hfn
                go_wp2_with fail
                go_meet
                case rel => exact ⟨(Below.refl _ _).alloc (Nat.le_refl _) _, by rw [← HFN.out]; exact blk_new _ _⟩
          | false =>
            have hq' : q = 0 := by
              have := HCB.out
              simp at this
              rw [HQ.out]
              split
              · rename_i hk0
                unfold FT.held
                rw [if_neg (fun h => this h hk0)]
              · rfl
            subst hq'
            go_wp2_with fail
            go_meet
            case rel => exact ⟨(Below.refl _ _).alloc (Nat.le_refl _) _, blk_new _ _⟩
        case rest =>
          obtain ⟨hbc, hrb⟩ := hcut
          have HBC := Lib.hid hbc
          have HRB := Lib.hid hrb
          have hwc := HWR.out.below hbc
          have hlen : (l ++ (heldF (f.of b) f.held).take k).length ≤ l.length + 2 := by simp [heldF_len]; omega
          have hnext : l ++ (heldF (f.of b) f.held).take (k + 1) = (l ++ (heldF (f.of b) f.held).take k) ++ [(x, q)] := by rw [heldF_at _ _ _ _ HX.out, ← HQ.out, List.append_assoc]
          have HNX := Lib.hid hnext
          obtain ⟨L, hL⟩ : ∃ L, L = l ++ (heldF (f.of b) f.held).take k := ⟨_, rfl⟩
          rw [← hL] at HNX hwc hlen
          clear hL hnext hbc hrb x0 x1 hc2
          obtain ⟨vL, hgL, hoL⟩ := hwc.ex
          obtain ⟨A2, c2, rfl⟩ := hoL.slice
          have g1 := blk_cell hgL 1
          have f1 := blk_frozen hgL 1
          have b0 := blk_cell HRB.out 0
          have b1 := blk_cell HRB.out 1
          simp at g1 b0 b1
          have HWC := Lib.hid hwc
          have HGL := Lib.hid hgL
          have HOL := Lib.hid hoL
          have hgc : g < wc.heap.size := hwc.lt
          have hbc' : wr.heap.size < wc.heap.size := blk_lt HRB.out
          clear hwc hgL hoL
          go_upto_region 10 with fail
          have BW1 : Hid (Below wc.heap.size wc ((wc.alloc (.cells #[] 62)).drew)) := ((Below.refl _ _).alloc (Nat.le_refl _) _).drew
          have OE1 : Hid (((wc.alloc (.cells #[] 62)).drew).ownsRow wc.heap.size 62 2 (.slice (some ⟨wc.heap.size, 0, none⟩) 0 0) 0 []) := own_empty (blk_drew (blk_new _ _)) (by omega)
          have OS1 : Hid (OffRow ((wc.alloc (.cells #[] 62)).drew) B 62 2 (.slice A2 L.length c2) L.length (cells2 (L.map fun p => (strV p.1, p.2)))) := HOL.out.below BW1.out
          have SZ1 : Hid (wc.heap.size ≤ ((wc.alloc (.cells #[] 62)).drew).heap.size) := BW1.out.size
          have BW2 : Hid (Below wc.heap.size wc (((wc.alloc (.cells #[] 62)).alloc (.cells #[.string ⟨x.toArray⟩, .int .i64 (q : Int)] 62)).drew)) := (((Below.refl _ _).alloc (Nat.le_refl _) _).alloc (by simp) _).drew
          have OE2 : Hid ((((wc.alloc (.cells #[] 62)).alloc (.cells #[.string ⟨x.toArray⟩, .int .i64 (q : Int)] 62)).drew).ownsRow wc.heap.size 62 2 (.slice (some ⟨wc.heap.size, 0, none⟩) 0 0) 0 []) := own_empty (blk_drew (blk_alloc (blk_new _ _) _)) (by omega)
          have OS2 : Hid (OffRow (((wc.alloc (.cells #[] 62)).alloc (.cells #[.string ⟨x.toArray⟩, .int .i64 (q : Int)] 62)).drew) B 62 2 (.slice A2 L.length c2) L.length (cells2 (L.map fun p => (strV p.1, p.2)))) := HOL.out.below BW2.out
          have SZ2 : Hid (wc.heap.size ≤ (((wc.alloc (.cells #[] 62)).alloc (.cells #[.string ⟨x.toArray⟩, .int .i64 (q : Int)] 62)).drew).heap.size) := BW2.out.size
          have BW3 : Hid (Below wc.heap.size wc (((wc.alloc (.cells #[.string ⟨x.toArray⟩, .int .i64 (q : Int)] 62)).alloc (.cells #[] 62)).drew)) := (((Below.refl _ _).alloc (Nat.le_refl _) _).alloc (by simp) _).drew
          have OE3 : Hid ((((wc.alloc (.cells #[.string ⟨x.toArray⟩, .int .i64 (q : Int)] 62)).alloc (.cells #[] 62)).drew).ownsRow wc.heap.size 62 2 (.slice (some ⟨(wc.heap.size + 1), 0, none⟩) 0 0) 0 []) := own_empty (blk_drew (blk_new' _ _ _ (by simp))) (by omega)
          have OS3 : Hid (OffRow (((wc.alloc (.cells #[.string ⟨x.toArray⟩, .int .i64 (q : Int)] 62)).alloc (.cells #[] 62)).drew) B 62 2 (.slice A2 L.length c2) L.length (cells2 (L.map fun p => (strV p.1, p.2)))) := HOL.out.below BW3.out
          have SZ3 : Hid (wc.heap.size ≤ (((wc.alloc (.cells #[.string ⟨x.toArray⟩, .int .i64 (q : Int)] 62)).alloc (.cells #[] 62)).drew).heap.size) := BW3.out.size
          have RB2 : Hid ((((wc.alloc (.cells #[] 62)).alloc (.cells #[.string ⟨x.toArray⟩, .int .i64 (q : Int)] 62)).drew).heap[wc.heap.size + 1]? = some (.cells #[.string ⟨x.toArray⟩, .int .i64 (q : Int)] 62)) := blk_drew (blk_new' _ _ _ (by simp))
          have RB3 : Hid ((((wc.alloc (.cells #[.string ⟨x.toArray⟩, .int .i64 (q : Int)] 62)).alloc (.cells #[] 62)).drew).heap[wc.heap.size]? = some (.cells #[.string ⟨x.toArray⟩, .int .i64 (q : Int)] 62)) := blk_drew (blk_alloc (blk_new _ _) _)
          have NE2 : Hid (some (wc.heap.size + 1) ≠ (Value.slice (some ⟨wc.heap.size, 0, none⟩) 0 0).ownBlock) := by show _ ≠ _; simp [Value.ownBlock]
          have NE3 : Hid (some wc.heap.size ≠ (Value.slice (some ⟨wc.heap.size + 1, 0, none⟩) 0 0).ownBlock) := by show _ ≠ _; simp [Value.ownBlock]
          have NL : ∀ (k : Nat), Hid (∀ kk, (Value.slice (some ⟨k, 0, none⟩) 0 0).ownBlock = some kk → k = kk) := fun k => by show ∀ _, _; intro kk h; simpa [Value.ownBlock] using h
          have ONE : Hid (∀ u ∈ (cells2 (L.map fun p => (strV p.1, p.2))), u.oneCell' = true) := cells2_one _ (fun p hp => by obtain ⟨y, _, rfl⟩ := List.mem_map.1 hp; rfl)
          have MX : 0 + L.length ≤ maxLen := by unfold maxLen; omega
          have BY : (0 + L.length) * 24 ≤ 140737488355328 := by omega
          have MX1 : L.length + 1 ≤ maxLen := by unfold maxLen; omega
          have BY1 : (L.length + 1) * 24 ≤ 140737488355328 := by omega
          have ONE1 : Hid (∀ u ∈ [(.string ⟨x.toArray⟩ : Value), .int .i64 (q : Int)], u.oneCell' = true) := by show ∀ u ∈ _, _; simp [Value.oneCell']
          have LE3 : Hid (wc.heap.size ≤ wc.heap.size + 1) := Nat.le_succ _
          go_region_law
            ((first
              | (refine step_append_src rfl (.tmp 50) (.tmp 54) 48 rfl wc.heap.size 62 i0 (.agg #[.string ⟨#[]⟩, .int .i64 0]) 2 24 Try.underlying48 hi hz0 hz1 hz2 rfl (by decide) (.slice (some ⟨wc.heap.size, 0, none⟩) 0 0) 0 [] rfl ?_ B (.slice A2 L.length c2) L.length (cells2 (L.map fun p => (strV p.1, p.2))) rfl ?_ ?_ MX BY ?_ ?_; with_reducible exact OE1.out; exact OS1.out; exact ONE.out; exact SZ1.out; intro v3 w3 ho3 hg3; simp only [Nat.zero_add, List.nil_append] at ho3; obtain ⟨A3, c3, rfl⟩ := own_slice ho3; have HB3 := Lib.hid (show Below wc.heap.size wc w3 from (BW1.out.grown hg3 SZ1.out (fun kk hkk => (NL _).out kk hkk ▸ Nat.le_refl _))); have HO3 := Lib.hid ho3; have hbx3 := blk_below' HRB.out HB3.out; have y0 := blk_cell hbx3 0; have y1 := blk_cell hbx3 1; simp at y0 y1; clear hbx3; clear ho3 hg3)
              | (refine step_append_src rfl (.tmp 50) (.tmp 54) 48 rfl wc.heap.size 62 i0 (.agg #[.string ⟨#[]⟩, .int .i64 0]) 2 24 Try.underlying48 hi hz0 hz1 hz2 rfl (by decide) (.slice (some ⟨wc.heap.size, 0, none⟩) 0 0) 0 [] rfl ?_ B (.slice A2 L.length c2) L.length (cells2 (L.map fun p => (strV p.1, p.2))) rfl ?_ ?_ MX BY ?_ ?_; with_reducible exact OE2.out; exact OS2.out; exact ONE.out; exact SZ2.out; intro v3 w3 ho3 hg3; simp only [Nat.zero_add, List.nil_append] at ho3; have RB := Lib.hid (blk_grown RB2.out hg3 NE2.out); obtain ⟨A3, c3, rfl⟩ := own_slice ho3; have HB3 := Lib.hid (show Below wc.heap.size wc w3 from (BW2.out.grown hg3 SZ2.out (fun kk hkk => (NL _).out kk hkk ▸ Nat.le_refl _))); have HO3 := Lib.hid ho3; have hbx3 := blk_below' HRB.out HB3.out; have y0 := blk_cell hbx3 0; have y1 := blk_cell hbx3 1; simp at y0 y1; clear hbx3; clear ho3 hg3)
              | (refine step_append_src rfl (.tmp 50) (.tmp 54) 48 rfl wc.heap.size 62 i0 (.agg #[.string ⟨#[]⟩, .int .i64 0]) 2 24 Try.underlying48 hi hz0 hz1 hz2 rfl (by decide) (.slice (some ⟨(wc.heap.size + 1), 0, none⟩) 0 0) 0 [] rfl ?_ B (.slice A2 L.length c2) L.length (cells2 (L.map fun p => (strV p.1, p.2))) rfl ?_ ?_ MX BY ?_ ?_; with_reducible exact OE3.out; exact OS3.out; exact ONE.out; exact SZ3.out; intro v3 w3 ho3 hg3; simp only [Nat.zero_add, List.nil_append] at ho3; have RB := Lib.hid (blk_grown RB3.out hg3 NE3.out); obtain ⟨A3, c3, rfl⟩ := own_slice ho3; have HB3 := Lib.hid (show Below wc.heap.size wc w3 from (BW3.out.grown hg3 SZ3.out (fun kk hkk => (NL _).out kk hkk ▸ LE3.out))); have HO3 := Lib.hid ho3; have hbx3 := blk_below' HRB.out HB3.out; have y0 := blk_cell hbx3 0; have y1 := blk_cell hbx3 1; simp at y0 y1; clear hbx3; clear ho3 hg3)
              | (refine step_append_off (w := (w3.alloc (.cells #[.string ⟨x.toArray⟩, .int .i64 (q : Int)] 62))) rfl (.tmp 55) (.tmp 57) 48 rfl wc.heap.size 62 i0 (.agg #[.string ⟨#[]⟩, .int .i64 0]) 2 24 Try.underlying48 hi hz0 hz1 hz2 rfl (by decide) (.slice A3 L.length c3) L.length (cells2 (L.map fun p => (strV p.1, p.2))) rfl ?_ ⟨w3.heap.size, 0, none⟩ 1 1 [.string ⟨x.toArray⟩, .int .i64 (q : Int)] rfl rfl ?_ ?_ MX1 BY1 ?_ (by decide) ?_; exact off_of_own (own_below HO3.out ((Below.refl _ _).alloc (Nat.le_refl _) _)); exact cells_two _ (blk_new _ _); exact ONE1.out; exact (((HB3.out).alloc HB3.out.size _)).size; intro v4 w4 ho4 hg4; obtain ⟨A4, c4, rfl⟩ := ho4.slice; have HBW := Lib.hid (show Below wc.heap.size wc (w3.alloc (.cells #[.string ⟨x.toArray⟩, .int .i64 (q : Int)] 62)) from (HB3.out).alloc HB3.out.size _); have HG4 := Lib.hid hg4; have HO4 := Lib.hid ho4; have hgg := blk_below' HGL.out (HBW.out.grown HG4.out HBW.out.size (fun kk hkk => (own_lt HO3.out kk hkk).1)); have g4 := blk_cell hgg 1; have f4 := blk_frozen hgg 1; simp at g4; clear hg4 ho4 hgg)
              | (refine step_append_off (w := w3) rfl (.tmp 55) (.tmp 57) 48 rfl wc.heap.size 62 i0 (.agg #[.string ⟨#[]⟩, .int .i64 0]) 2 24 Try.underlying48 hi hz0 hz1 hz2 rfl (by decide) (.slice A3 L.length c3) L.length (cells2 (L.map fun p => (strV p.1, p.2))) rfl ?_ ⟨(wc.heap.size + 1), 0, none⟩ 1 1 [.string ⟨x.toArray⟩, .int .i64 (q : Int)] rfl rfl ?_ ?_ MX1 BY1 ?_ (by decide) ?_; exact off_of_own (HO3.out); exact cells_two _ RB.out; exact ONE1.out; exact (HB3.out).size; intro v4 w4 ho4 hg4; obtain ⟨A4, c4, rfl⟩ := ho4.slice; have HBW := Lib.hid (HB3.out); have HG4 := Lib.hid hg4; have HO4 := Lib.hid ho4; have hgg := blk_below' HGL.out (HBW.out.grown HG4.out HBW.out.size (fun kk hkk => (own_lt HO3.out kk hkk).1)); have g4 := blk_cell hgg 1; have f4 := blk_frozen hgg 1; simp at g4; clear hg4 ho4 hgg)
              | (refine step_append_off (w := w3) rfl (.tmp 55) (.tmp 57) 48 rfl wc.heap.size 62 i0 (.agg #[.string ⟨#[]⟩, .int .i64 0]) 2 24 Try.underlying48 hi hz0 hz1 hz2 rfl (by decide) (.slice A3 L.length c3) L.length (cells2 (L.map fun p => (strV p.1, p.2))) rfl ?_ ⟨wc.heap.size, 0, none⟩ 1 1 [.string ⟨x.toArray⟩, .int .i64 (q : Int)] rfl rfl ?_ ?_ MX1 BY1 ?_ (by decide) ?_; exact off_of_own (HO3.out); exact cells_two _ RB.out; exact ONE1.out; exact (HB3.out).size; intro v4 w4 ho4 hg4; obtain ⟨A4, c4, rfl⟩ := ho4.slice; have HBW := Lib.hid (HB3.out); have HG4 := Lib.hid hg4; have HO4 := Lib.hid ho4; have hgg := blk_below' HGL.out (HBW.out.grown HG4.out HBW.out.size (fun kk hkk => (own_lt HO3.out kk hkk).1)); have g4 := blk_cell hgg 1; have f4 := blk_frozen hgg 1; simp at g4; clear hg4 ho4 hgg)))
          all_goals
            go_wp2_with fail
            go_roundw
            case rel =>
              obtain ⟨p1, p2⟩ := ref_push (b := x) (h := q) HWC.out.ge HGL.out HWC.out.rm HWC.out.hh hq16 HBW.out HG4.out (fun kk hkk => (own_lt HO3.out kk hkk).1) HO4.out
              refine ⟨k + 1, by omega, by go_num, grown_trans (grown_then HGR.out HBC.out) p1, by rw [HNX.out]; exact p2, (HAR.out.below HBC.out).grown p1 (fun A n c e => ?_), blk_grown (blk_below' HBX.out HBC.out) p1 (by simp; omega)⟩
              have h8 := HNEW.out A n c e
              simp at h8
              omega
            case measure => simp [intOf]; omega
    · have hkk : k = (f.of b).length := by omega
      subst hkk
      go_wp2_with fail
      go_ret
      have h9 : (heldF (f.of b) f.held).take (f.of b).length = heldF (f.of b) f.held := List.take_of_length_le (by rw [heldF_len]; exact Nat.le_refl _)
      refine ⟨rfl, HGR.out, ?_⟩
      have := HWR.out
      rwa [h9] at this

theorem ref_put (w : World) (B g room : Nat) (l l' : List (List UInt8 × Nat)) (n : Int) (f : FT) (b : List UInt8) (hw : RefAt w B g room l) (hn : f.n ≤ 9223372036854775807) (hfb : f.b.length ≤ 9223372036854775807) (hx0 : 0 ≤ f.x) (hx1 : f.x ≤ 255) (hl : b.length ≤ 200)
    (hll : l.length ≤ 10000) (hF : putF room l f b = (n, l')) :
    Calls Try.prog 18 #[.pointer (some ⟨g, 0, none⟩), strV b, refV f] w (RPutEnd w B g room n l') := by
  unfold putF at hF
  split at hF
  · rename_i h
    cases hF
    exact rput_full w B g room l f b hw hn hfb hx0 hx1 hl hll h
  · rename_i h
    cases hF
    exact rput_ok w B g room l f b hw hn hfb hx0 hx1 hl hll (by omega)
end Go.Proofs.Ytcdanimdkkhamaa
