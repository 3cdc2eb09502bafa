/-
  Spans: Sweep.
-/
import Derived.Test.YtpbghoddemffhaaDoorSpA
namespace Go.Proofs.YtpbghoddemffhaaDoor
open Go.RowKit
set_option maxRecDepth 100000
set_option maxHeartbeats 2000000

theorem filter_elemsF {U M : Nat → Bool} : ∀ (f i : Nat), (elemsF U f i).filter (fun x => !M x.toNat) = elemsF (fun t => U t && !M t) f i
  | 0, _ => rfl
  | f + 1, i => by
    rw [elemsF_succ, elemsF_succ, ← filter_elemsF f (i + 1)]
    cases hU : U i <;> cases hM : M i <;> simp [hM]
theorem filter_elems (U M : Nat → Bool) (n : Nat) : (elems U n).filter (fun x => !M x.toNat) = elems (fun t => U t && !M t) n := filter_elemsF n 0
theorem take_one {l : List Int} {t : Nat} (h : t < l.length) : l.take (t + 1) = l.take t ++ [l.getD t 0] := by
  rw [List.take_succ_eq_append_getElem h, List.getD_eq_getElem?_getD, List.getElem?_eq_getElem h]; rfl
theorem elems_getD_mem {U : Nat → Bool} {n t : Nat} (h : t < (elems U n).length) : ∃ j : Nat, (elems U n).getD t 0 = (j : Int) ∧ j < n ∧ U j = true := by
  have hm : (elems U n).getD t 0 ∈ elems U n := by
    rw [List.getD_eq_getElem?_getD, List.getElem?_eq_getElem h]; exact List.getElem_mem h
  obtain ⟨j, e, _, h1, h2⟩ := (mem_elemsF n 0 _).1 hm
  exact ⟨j, e, by omega, h2⟩

theorem tab_ne {w : World} {p : Nat} {t : TypeId} {cs : Array Value} {x : Int} (hT : Tab w) (hc : Cel w p t cs) (h0 : cs[0]? = some (.int .i64 x)) : ¬ (0 = p) := by
  rintro rfl
  have h1 := hT 0 (by decide)
  rw [hc.cell 0, h0] at h1
  injection h1 with h1
  injection h1 with h1 _
  cases h1

section
variable (w : World) (p u ku m km n : Nat) (first k from_ : Int) (U M : Nat → Bool)
theorem sp_stays (c : Nat) (h : SpAt w p u ku m km n first k from_ U M) (hc : Cel w c 23 #[ptr p]) (i : Int) :
    Calls Tryd.prog 55 #[.int .i64 i, ptr c] w fun e w' => e = .returned (.bool (atM M i)) ∧ w = w' := by
  have q0 : w.cell? ⟨c, 0, none⟩ = some (ptr p) := hc.cell 0
  have q1 : w.cell? ⟨p, 3, none⟩ = some (ptr m) := h.cel.cell 3
  have H := Lib.hid h
  clear h hc
  unfold ptr at *
  go_enter Tryd.func55, Tryd.ntmps55
  go_wp2_with fail
  refine (set_has_int H.out.ms i).mono ?_
  rintro e w' ⟨rfl, rfl⟩
  go_wp2_with fail
  go_ret
  exact ⟨rfl, rfl⟩
/-- What a sweep hands back. -/
def SwR (e : Ending) (w' : World) : Prop :=
  ∃ v, e = .returned v ∧ Own w' w.heap.size v (elems (fun t => U t && !M t) n) ∧ SpAt w' p m km u ku n first k 0 M (fun _ => false) ∧ Upd (fun x => x = p ∨ x = u ∨ x = ku) w w'
theorem sp_sweep (h : SpAt w p u ku m km n first k from_ U M) (hT : Tab w) :
    Calls Tryd.prog 28 #[ptr p] w (SwR w p u ku m km n first k U M) := by
  have hmf : ∀ (fn : Fn) (first cap : Array Value) (w : World), (Instr.makeFunc fn first cap).run Tryd.prog w = .ok (.func fn first cap) w := fun _ _ _ _ => rfl
  have hn := h.us.le
  have HT := Lib.hid hT
  clear hT
  go_enter Tryd.func28, Tryd.ntmps28
  go_upto_region 1 with fail
  have hC := Cel.born w 23 #[ptr p]
  have hb := (Below.refl w.heap.size w).alloc (Nat.le_refl _) (.cells #[ptr p] 23)
  have h1 := h.below hb
  have hpc : ptr p = .pointer (some ⟨p, 0, none⟩) := rfl
  obtain ⟨c, hc⟩ : ∃ c, w.heap.size = c := ⟨_, rfl⟩
  have HH := Lib.hid hc
  rw [hc] at hC hb ⊢
  have hlp := h.cel.lt
  have hlu := h.us.lt
  have hlk := h.us.ltk
  clear h hc
  generalize w.alloc (.cells #[ptr p] 23) = w1 at hC hb h1 ⊢
  have q0 : w1.cell? ⟨c, 0, none⟩ = some (ptr p) := hC.cell 0
  have q1 : w1.cell? ⟨p, 2, none⟩ = some (ptr u) := h1.cel.cell 2
  unfold ptr at q0 q1 ⊢
  go_wp2_with fail
  refine (set_all w1 u ku n U h1.us (HT.out.below hb (by have := HT.out.pos; have := HH.out; omega))).mono ?_
  rintro e w2 ⟨v, rfl, hv, hb2⟩
  have h2 := h1.below hb2
  have hC2 := hC.ofBelow hb2
  have hc1 := hC.lt
  have hB2 : Below c w w2 := hb.trans (hb2.mono (by omega))
  obtain ⟨va, vc, rfl⟩ := hv.rd.form
  obtain ⟨hL, b, off, hva, hcell⟩ := hv.rd.plain
  have hL300 : (elems U n).length ≤ 16777216 := by rw [elems_len]; have := cnt_le U n; omega
  obtain ⟨L, hLL⟩ : ∃ L, L = (elems U n).length := ⟨_, rfl⟩
  rw [← hLL] at hva hcell hL300 ⊢
  have HL := Lib.hid (And.intro hLL (And.intro hva (fun (x : World) (hx : Below w2.heap.size w2 x) j hj => (hx.cell (p := ⟨b, off + j, none⟩) (World.block_lt_of_cell? w2 ⟨b, off + j, none⟩ (hcell j hj))).trans (hcell j hj))))
  have HB2 : Hid (c ≤ w2.heap.size) := Nat.le_of_lt hC2.lt
  clear h1 hC hb hb2 hv hL hva hcell q0 q1 hLL
  go_wp2_with fail
  go_loopg [3, 18] L (fun q s3 s18 ws => ∃ t : Nat, s18 = .int .i64 t ∧ t ≤ L ∧ L - t ≤ q ∧ Own ws w2.heap.size s3 (((elems U n).take t).filter (fun x => !M x.toNat)) ∧ Below w2.heap.size w2 ws)
  case atStart => exact ⟨0, rfl, by omega, by omega, Own.nil _ _, Below.refl _ _⟩
  case round =>
    obtain ⟨t, rfl, ht, hq, hO, hbr⟩ := hrel
    by_cases hlt : t < L
    · obtain rfl := HL.out.2.1 (by omega)
      have c1 := HL.out.2.2 wr hbr t hlt
      obtain ⟨y, hy, hyn, hyU⟩ := elems_getD_mem (U := U) (n := n) (t := t) (by rw [← HL.out.1]; exact hlt)
      have htk := take_one (l := elems U n) (t := t) (by rw [← HL.out.1]; exact hlt)
      rw [hy] at htk c1
      have HTK := Lib.hid htk
      clear htk hy hyU
      have i1 : (t : Int) < (L : Int) := by omega
      have i2 : (0 : Int) ≤ (t : Int) := by omega
      go_wp2_with fail
      refine (sp_stays wr p u ku m km n first k from_ U M c (h2.below hbr) (hC2.ofBelow hbr) y).mono ?_
      rintro e w' ⟨rfl, rfl⟩
      rw [atM_nat]
      clear c1
      cases hMy : M y with
      | true =>
        have HM := Lib.hid hMy
        clear hMy
        go_wp2_with fail
        go_roundg (L - (t + 1))
        case measure => omega
        case rel =>
          refine ⟨t + 1, by go_num, by omega, Nat.le_refl _, ?_, hbr⟩
          rw [HTK.out, List.filter_append]
          simpa [HM.out] using hO
      | false =>
        have HM := Lib.hid hMy
        clear hMy
        have hcs : w2.heap.size ≤ wr.heap.size := hbr.size
        obtain ⟨a3, c3, hs3⟩ := hO.rd.form
        obtain ⟨ol, hol⟩ : ∃ ol, ol = (((elems U n).take t).filter (fun x => !M x.toNat)).length := ⟨_, rfl⟩
        have hle : ol ≤ 16777216 := by
          have e1 := List.length_filter_le (fun x : Int => !M x.toNat) ((elems U n).take t)
          have e2 := List.length_take_le t (elems U n)
          omega
        rw [← hol] at hs3
        subst hs3
        have HOL := Lib.hid hol
        clear hol
        go_wp2_with (at_builtin; refine wpList_append_rd rfl (.tmp 26) (.tmp 28) rfl rfl rfl (hO.alloc _) (Rd.one _ _) (by simp; omega) (ol + 1) (by rw [← HOL.out]; rfl) (by omega) ?_; intro a4 c4 w4 hown4 hg4 hat4)
        go_roundg (L - (t + 1))
        case measure => omega
        case rel =>
          refine ⟨t + 1, by go_num, by omega, Nat.le_refl _, ?_, ?_⟩
          · rw [HTK.out, List.filter_append]
            simpa [HM.out] using hown4
          · exact below_grownD (hbr.alloc hcs _) (hO.alloc _) hg4 (by simp; omega)
    · obtain rfl : t = L := by omega
      have h3 := h2.below hbr
      have hC3 := hC2.ofBelow hbr
      have hB3 : Below c w wr := hB2.trans (hbr.mono (by have := hC2.lt; omega))
      have htl : (((elems U n).take t).filter (fun x => !M x.toNat)) = elems (fun t => U t && !M t) n := by
        rw [HL.out.1, List.take_length, filter_elems]
      rw [htl] at hO
      clear htl hbr h2 hC2 hB2
      go_upto_region 11 with fail
      have hne : Nonempty (Kept (fun x => Cel x c 23 #[ptr p])) := ⟨⟨wr, hC3⟩⟩
      have q0 : ∀ x : Kept (fun x => Cel x c 23 #[ptr p]), x.1.cell? ⟨c, 0, none⟩ = some (.pointer (some ⟨p, 0, none⟩)) := fun x => x.2.cell 0
      refine wp_region_fork [0, 1, 2, 3, 4, 5, 7, 8, 9] [] 11 (fun x => Cel x c 23 #[ptr p]) (by kernel_rfl) (by kernel_rfl) (fun _ _ _ _ _ h => h) hC3.drew ?_
      show wpQuiet _ _ _ _ (List.filterMap _ _) _
      simp only [List.filterMap_cons, List.filterMap_nil, List.getElem?_toArray, List.getElem?_cons_zero, List.getElem?_cons_succ]
      show wpQuiet _ _ _ _ [_, _, _, _, _, _, _, _, _] _
      repeat (go_big_quiet_step (fail))
      refine wpQuiet_nil ?_
      have hb5 : Below wr.heap.size wr wr.drew := (Below.refl _ _).drew
      have h5 := h3.below hb5
      have hC5 := hC3.ofBelow hb5
      have hO5 := hO.ofBelow hb5
      have hB5 : Below c w wr.drew := hB3.trans (hb5.mono (by have := hC3.lt; omega))
      generalize wr.drew = w5 at h5 hC5 hO5 hB5 ⊢
      clear h3 hC3 hO hB3 hb5 q0 hne
      have d1 := h5.cel
      have d2 := d1.put 2 (ptr m)
      have d3 := d2.put 3 (ptr u)
      have e1 := d1.free 2
      have f1 : w5.cell? ⟨p, 2, none⟩ = some (.pointer (some ⟨u, 0, none⟩)) := d1.cell 2
      have f4 : w5.cell? ⟨p, 3, none⟩ = some (.pointer (some ⟨m, 0, none⟩)) := d1.cell 3
      have e2 := d2.free 3
      have f2 : (w5.setCell ⟨p, 2, none⟩ (ptr m)).cell? ⟨p, 3, none⟩ = some (.pointer (some ⟨m, 0, none⟩)) := d2.cell 3
      have e3 := d3.free 4
      have f3 : ((w5.setCell ⟨p, 2, none⟩ (ptr m)).setCell ⟨p, 3, none⟩ (ptr u)).cell? ⟨p, 4, none⟩ = some (.int .i64 from_) := d3.cell 4
      have HD : Hid (Cel w5 c 23 #[ptr p] ∧ Cel (w5.setCell ⟨p, 2, none⟩ (ptr m)) c 23 #[ptr p] ∧ Cel ((w5.setCell ⟨p, 2, none⟩ (ptr m)).setCell ⟨p, 3, none⟩ (ptr u)) c 23 #[ptr p] ∧ Cel (((w5.setCell ⟨p, 2, none⟩ (ptr m)).setCell ⟨p, 3, none⟩ (ptr u)).setCell ⟨p, 4, none⟩ (.int .i64 0)) c 23 #[ptr p]) := by
        have hne := hC5.ne d1 (by decide)
        exact ⟨hC5, hC5.far (p := ⟨p, 2, none⟩) hne _, (hC5.far (p := ⟨p, 2, none⟩) hne _).far (p := ⟨p, 3, none⟩) hne _, ((hC5.far (p := ⟨p, 2, none⟩) hne _).far (p := ⟨p, 3, none⟩) hne _).far (p := ⟨p, 4, none⟩) hne _⟩
      have H6 : Hid (∃ w6, w6 = ((w5.setCell ⟨p, 2, none⟩ (ptr m)).setCell ⟨p, 3, none⟩ (ptr u)).setCell ⟨p, 4, none⟩ (.int .i64 0) ∧ SpAt w6 p m km u ku n first k 0 M U ∧ Cel w6 c 23 #[ptr p] ∧ Own w6 w2.heap.size u3 (elems (fun t => U t && !M t) n) ∧ Upd (· = p) w5 w6) := by
        have hu6 : Upd (· = p) w5 (((w5.setCell ⟨p, 2, none⟩ (ptr m)).setCell ⟨p, 3, none⟩ (ptr u)).setCell ⟨p, 4, none⟩ (.int .i64 0)) := (((Upd.refl (· = p) w5).sc (fun _ => rfl) _ _).sc (fun _ => rfl) _ _).sc (fun _ => rfl) _ _
        have d4 := d3.put 4 (.int .i64 0)
        obtain ⟨_, _, a1, a2, _⟩ := h5.us
        obtain ⟨_, _, b1, b2, _⟩ := h5.ms
        exact ⟨_, rfl, ⟨d4, h5.ms.upd hu6 (d1.ne b1 (by decide)).symm (d1.ne b2 (by decide)).symm, h5.us.upd hu6 (d1.ne a1 (by decide)).symm (d1.ne a2 (by decide)).symm, h5.um.symm, h5.kk.symm, h5.hn, h5.hk, h5.hf, by omega⟩,
          HD.out.2.2.2, hO5.upd hu6 (hO5.typed d1 (by decide)), hu6⟩
      have H5 := Lib.hid (And.intro h5 hB5)
      clear d1 d2 d3 h5 hC5 hO5 hB5
      unfold ptr at e1 e2 e3 f1 f2 f3 f4 HD
      refine till_two (i := 6) (k := 10) (by kernel_rfl) ?_ ?_
      · refine then_op (o := ⟨_, _, _, _, _, _⟩) rfl rfl fun K hK => ?_
        go_simp
        refine hK _ _ (fun _ => HD.out.1) ?_
        clear hK K
        refine till_one (i := 10) (by kernel_rfl) ?_
        refine then_op (o := ⟨_, _, _, _, _, _⟩) rfl rfl fun K hK => ?_
        go_simp
        refine hK _ _ (fun _ => HD.out.1) ?_
        clear hK K
        refine till_one (i := 11) (by kernel_rfl) ?_
        refine then_op (o := ⟨_, _, _, _, _, _⟩) rfl rfl fun K hK => ?_
        go_simp
        refine hK _ _ (fun _ => HD.out.1) ?_
        clear hK K
        refine till_one (i := 12) (by kernel_rfl) ?_
        refine then_op (o := ⟨_, _, _, _, _, _⟩) rfl rfl fun K hK => ?_
        go_simp
        refine hK _ _ (fun _ => HD.out.1) ?_
        clear hK K
        refine till_one (i := 13) (by kernel_rfl) ?_
        refine then_op (o := ⟨_, _, _, _, _, _⟩) rfl rfl fun K hK => ?_
        go_simp
        refine hK _ _ (fun _ => HD.out.2.1) ?_
        clear hK K
        refine till_one (i := 14) (by kernel_rfl) ?_
        refine then_op (o := ⟨_, _, _, _, _, _⟩) rfl rfl fun K hK => ?_
        go_simp
        refine hK _ _ (fun _ => HD.out.2.1) ?_
        clear hK K
        refine till_one (i := 15) (by kernel_rfl) ?_
        refine then_op (o := ⟨_, _, _, _, _, _⟩) rfl rfl fun K hK => ?_
        go_simp
        refine hK _ _ (fun _ => HD.out.2.1) ?_
        clear hK K
        refine till_one (i := 16) (by kernel_rfl) ?_
        refine then_op (o := ⟨_, _, _, _, _, _⟩) rfl rfl fun K hK => ?_
        go_simp
        refine hK _ _ (fun _ => HD.out.2.2.1) ?_
        clear hK K
        refine till_one (i := 17) (by kernel_rfl) ?_
        refine then_op (o := ⟨_, _, _, _, _, _⟩) rfl rfl fun K hK => ?_
        go_simp
        refine hK _ _ (fun _ => HD.out.2.2.1) ?_
        clear hK K
        refine till_one (i := 18) (by kernel_rfl) ?_
        refine then_op (o := ⟨_, _, _, _, _, _⟩) rfl rfl fun K hK => ?_
        go_simp
        refine hK _ _ (fun _ => HD.out.2.2.1) ?_
        clear hK K
        refine till_one (i := 19) (by kernel_rfl) ?_
        refine then_op (o := ⟨_, _, _, _, _, _⟩) rfl rfl fun K hK => ?_
        go_simp
        refine hK _ _ (fun _ => HD.out.2.2.2) ?_
        clear hK K
        refine till_end (by kernel_rfl) ?_
        obtain ⟨w6, hw6, h6, hC6, hO6, hu6⟩ := H6.out
        unfold ptr at hw6
        rw [← hw6]
        clear hw6 H6 e1 e2 e3 f1 f2 f3 f4 HD
        have g0 : w6.cell? ⟨c, 0, none⟩ = some (.pointer (some ⟨p, 0, none⟩)) := hC6.cell 0
        have g1 : w6.cell? ⟨p, 3, none⟩ = some (.pointer (some ⟨u, 0, none⟩)) := h6.cel.cell 3
        go_wp2_with fail
        have hT5 := HT.out.below H5.out.2 (by have := HT.out.pos; have := HH.out; omega)
        have hT6 := hT5.upd hu6 (tab_ne hT5 H5.out.1.cel rfl)
        have hU6 : Upd (fun x => x = p ∨ x = u ∨ x = ku) w w6 := by
          have h0 := H5.out.2
          rw [← HH.out] at h0
          exact (Upd.ofBelow h0).trans (hu6.mono (fun x hx _ => .inl hx))
        refine (set_all w6 u ku n U h6.ms hT6).mono ?_
        rintro e w7 ⟨v7, rfl, hv7, hb7⟩
        have h7 := h6.below hb7
        have hC7 := hC6.ofBelow hb7
        have hO7 := hO6.ofBelow hb7
        have hU7 := hU6.trans (Upd.ofBelow hb7)
        clear h6 hC6 hO6 hU6 hu6 hT5 hT6 g0 g1 hb7
        obtain ⟨va7, vc7, rfl⟩ := hv7.rd.form
        rw [← HL.out.1] at hv7 ⊢
        generalize w6.heap.size = B7 at hv7
        go_wp2_with fail
        go_loopg [54] t (fun q s54 ws => ∃ (y : Nat) (K : Nat → Bool), s54 = .int .i64 y ∧ y ≤ t ∧ t - y ≤ q ∧ SpAt ws p m km u ku n first k 0 M K ∧ Cel ws c 23 #[ptr p] ∧ Own ws w2.heap.size u3 (elems (fun t => U t && !M t) n) ∧ Own ws B7 (.slice va7 t vc7) (elems U n) ∧ Upd (fun x => x = p ∨ x = u ∨ x = ku) w ws ∧ Hid ((∀ x, K x = true → U x = true) ∧ ∀ j, j < y → K ((elems U n).getD j 0).toNat = false))
        case atStart => exact ⟨0, U, rfl, by omega, by omega, h7, hC7, hO7, hv7, hU7, ⟨fun _ h => h, fun j hj => absurd hj (by omega)⟩⟩
        case round =>
          clear h7 hC7 hO7 hv7 hU7
          obtain ⟨y, K, rfl, hy, hq2, h7, hC7, hO7, hv7, hU7, hK⟩ := hrel
          by_cases hlt2 : y < t
          · have hfm := hv7.rd.plain
            obtain ⟨_, b7, off7, hva7, hcell7⟩ := hfm
            obtain rfl := hva7 (by omega)
            have c1 := hcell7 y hlt2
            obtain ⟨z, hz, hzn, hzU⟩ := elems_getD_mem (U := U) (n := n) (t := y) (by rw [← HL.out.1]; exact hlt2)
            rw [hz] at c1
            have HZ := Lib.hid (And.intro hz hzU)
            have g0 : wr.cell? ⟨c, 0, none⟩ = some (.pointer (some ⟨p, 0, none⟩)) := hC7.cell 0
            have g1 : wr.cell? ⟨p, 3, none⟩ = some (.pointer (some ⟨u, 0, none⟩)) := h7.cel.cell 3
            have i1 : (y : Int) < (t : Int) := by omega
            have i2 : (0 : Int) ≤ (y : Int) := by omega
            clear hcell7 hva7 hz hzU
            go_wp2_with fail
            refine (set_clear wr u ku n z K h7.ms).mono ?_
            rintro e w8 ⟨rfl, hS8, hu8⟩
            have h8 := h7.putM hS8 hu8
            have hC8 := h7.ms.cel hC7 (by decide) (by decide) hu8
            have hO8 := h7.ms.own hO7 hu8
            have hv8 := h7.ms.own hv7 hu8
            have hU8 := hU7.step hu8 (fun x hx _ => .inr hx)
            have hK8 : Hid ((∀ x, outM K z x = true → U x = true) ∧ ∀ j, j < y + 1 → outM K z ((elems U n).getD j 0).toNat = false) := by
              refine ⟨fun x hx => ?_, fun j hj => ?_⟩
              · unfold outM at hx
                split at hx
                · cases hx
                · exact hK.out.1 x hx
              · unfold outM
                split
                · rfl
                · rename_i hne
                  refine hK.out.2 j ?_
                  by_cases e : j = y
                  · subst e
                    rw [HZ.out.1, Int.toNat_natCast] at hne
                    exact absurd rfl hne
                  · omega
            generalize K z = kz
            clear c1 g0 g1 h7 hC7 hO7 hv7 hU7 hS8 hu8 hK
            go_wp2_with fail
            go_roundg (t - (y + 1))
            case measure => omega
            case rel => exact ⟨y + 1, _, by go_num, by omega, Nat.le_refl _, h8, hC8, hO8, hv8, hU8, hK8⟩
          · obtain rfl : y = t := by omega
            have hK0 : K = fun _ => false := by
              funext x
              cases hx : K x with
              | false => rfl
              | true =>
                have hU := hK.out.1 x hx
                have hm : ((x : Nat) : Int) ∈ elems U n := (mem_elemsF n 0 _).2 ⟨x, rfl, by omega, by have := h7.ms.in x hx; omega, hU⟩
                obtain ⟨j, hj, e⟩ := List.getElem_of_mem hm
                have := hK.out.2 j (by rw [HL.out.1]; exact hj)
                rw [List.getD_eq_getElem?_getD, List.getElem?_eq_getElem hj, Option.getD_some, e, Int.toNat_natCast, hx] at this
                cases this
            subst hK0
            have HF := Lib.hid (And.intro h7 (And.intro hO7 hU7))
            clear h7 hC7 hO7 hv7 hU7 hK
            go_wp2_with fail
            go_ret
            exact ⟨_, rfl, HF.out.2.1.weak (by have := HH.out; have := HB2.out; omega), HF.out.1, HF.out.2.2⟩
      · refine then_op (o := ⟨_, _, _, _, _, _⟩) rfl rfl fun K hK => ?_
        go_simp
        refine hK _ _ (fun _ => HD.out.1) ?_
        clear hK K
        refine till_one (i := 6) (by kernel_rfl) ?_
        refine then_op (o := ⟨_, _, _, _, _, _⟩) rfl rfl fun K hK => ?_
        go_simp
        refine hK _ _ (fun _ => HD.out.1) ?_
        clear hK K
        refine till_one (i := 11) (by kernel_rfl) ?_
        refine then_op (o := ⟨_, _, _, _, _, _⟩) rfl rfl fun K hK => ?_
        go_simp
        refine hK _ _ (fun _ => HD.out.1) ?_
        clear hK K
        refine till_one (i := 12) (by kernel_rfl) ?_
        refine then_op (o := ⟨_, _, _, _, _, _⟩) rfl rfl fun K hK => ?_
        go_simp
        refine hK _ _ (fun _ => HD.out.1) ?_
        clear hK K
        refine till_one (i := 13) (by kernel_rfl) ?_
        refine then_op (o := ⟨_, _, _, _, _, _⟩) rfl rfl fun K hK => ?_
        go_simp
        refine hK _ _ (fun _ => HD.out.2.1) ?_
        clear hK K
        refine till_one (i := 14) (by kernel_rfl) ?_
        refine then_op (o := ⟨_, _, _, _, _, _⟩) rfl rfl fun K hK => ?_
        go_simp
        refine hK _ _ (fun _ => HD.out.2.1) ?_
        clear hK K
        refine till_one (i := 15) (by kernel_rfl) ?_
        refine then_op (o := ⟨_, _, _, _, _, _⟩) rfl rfl fun K hK => ?_
        go_simp
        refine hK _ _ (fun _ => HD.out.2.1) ?_
        clear hK K
        refine till_one (i := 16) (by kernel_rfl) ?_
        refine then_op (o := ⟨_, _, _, _, _, _⟩) rfl rfl fun K hK => ?_
        go_simp
        refine hK _ _ (fun _ => HD.out.2.2.1) ?_
        clear hK K
        refine till_one (i := 17) (by kernel_rfl) ?_
        refine then_op (o := ⟨_, _, _, _, _, _⟩) rfl rfl fun K hK => ?_
        go_simp
        refine hK _ _ (fun _ => HD.out.2.2.1) ?_
        clear hK K
        refine till_one (i := 18) (by kernel_rfl) ?_
        refine then_op (o := ⟨_, _, _, _, _, _⟩) rfl rfl fun K hK => ?_
        go_simp
        refine hK _ _ (fun _ => HD.out.2.2.1) ?_
        clear hK K
        refine till_one (i := 19) (by kernel_rfl) ?_
        refine then_op (o := ⟨_, _, _, _, _, _⟩) rfl rfl fun K hK => ?_
        go_simp
        refine hK _ _ (fun _ => HD.out.2.2.2) ?_
        clear hK K
        refine till_end (by kernel_rfl) ?_
        obtain ⟨w6, hw6, h6, hC6, hO6, hu6⟩ := H6.out
        unfold ptr at hw6
        rw [← hw6]
        clear hw6 H6 e1 e2 e3 f1 f2 f3 f4 HD
        have g0 : w6.cell? ⟨c, 0, none⟩ = some (.pointer (some ⟨p, 0, none⟩)) := hC6.cell 0
        have g1 : w6.cell? ⟨p, 3, none⟩ = some (.pointer (some ⟨u, 0, none⟩)) := h6.cel.cell 3
        go_wp2_with fail
        have hT5 := HT.out.below H5.out.2 (by have := HT.out.pos; have := HH.out; omega)
        have hT6 := hT5.upd hu6 (tab_ne hT5 H5.out.1.cel rfl)
        have hU6 : Upd (fun x => x = p ∨ x = u ∨ x = ku) w w6 := by
          have h0 := H5.out.2
          rw [← HH.out] at h0
          exact (Upd.ofBelow h0).trans (hu6.mono (fun x hx _ => .inl hx))
        refine (set_all w6 u ku n U h6.ms hT6).mono ?_
        rintro e w7 ⟨v7, rfl, hv7, hb7⟩
        have h7 := h6.below hb7
        have hC7 := hC6.ofBelow hb7
        have hO7 := hO6.ofBelow hb7
        have hU7 := hU6.trans (Upd.ofBelow hb7)
        clear h6 hC6 hO6 hU6 hu6 hT5 hT6 g0 g1 hb7
        obtain ⟨va7, vc7, rfl⟩ := hv7.rd.form
        rw [← HL.out.1] at hv7 ⊢
        generalize w6.heap.size = B7 at hv7
        go_wp2_with fail
        go_loopg [54] t (fun q s54 ws => ∃ (y : Nat) (K : Nat → Bool), s54 = .int .i64 y ∧ y ≤ t ∧ t - y ≤ q ∧ SpAt ws p m km u ku n first k 0 M K ∧ Cel ws c 23 #[ptr p] ∧ Own ws w2.heap.size u3 (elems (fun t => U t && !M t) n) ∧ Own ws B7 (.slice va7 t vc7) (elems U n) ∧ Upd (fun x => x = p ∨ x = u ∨ x = ku) w ws ∧ Hid ((∀ x, K x = true → U x = true) ∧ ∀ j, j < y → K ((elems U n).getD j 0).toNat = false))
        case atStart => exact ⟨0, U, rfl, by omega, by omega, h7, hC7, hO7, hv7, hU7, ⟨fun _ h => h, fun j hj => absurd hj (by omega)⟩⟩
        case round =>
          clear h7 hC7 hO7 hv7 hU7
          obtain ⟨y, K, rfl, hy, hq2, h7, hC7, hO7, hv7, hU7, hK⟩ := hrel
          by_cases hlt2 : y < t
          · have hfm := hv7.rd.plain
            obtain ⟨_, b7, off7, hva7, hcell7⟩ := hfm
            obtain rfl := hva7 (by omega)
            have c1 := hcell7 y hlt2
            obtain ⟨z, hz, hzn, hzU⟩ := elems_getD_mem (U := U) (n := n) (t := y) (by rw [← HL.out.1]; exact hlt2)
            rw [hz] at c1
            have HZ := Lib.hid (And.intro hz hzU)
            have g0 : wr.cell? ⟨c, 0, none⟩ = some (.pointer (some ⟨p, 0, none⟩)) := hC7.cell 0
            have g1 : wr.cell? ⟨p, 3, none⟩ = some (.pointer (some ⟨u, 0, none⟩)) := h7.cel.cell 3
            have i1 : (y : Int) < (t : Int) := by omega
            have i2 : (0 : Int) ≤ (y : Int) := by omega
            clear hcell7 hva7 hz hzU
            go_wp2_with fail
            refine (set_clear wr u ku n z K h7.ms).mono ?_
            rintro e w8 ⟨rfl, hS8, hu8⟩
            have h8 := h7.putM hS8 hu8
            have hC8 := h7.ms.cel hC7 (by decide) (by decide) hu8
            have hO8 := h7.ms.own hO7 hu8
            have hv8 := h7.ms.own hv7 hu8
            have hU8 := hU7.step hu8 (fun x hx _ => .inr hx)
            have hK8 : Hid ((∀ x, outM K z x = true → U x = true) ∧ ∀ j, j < y + 1 → outM K z ((elems U n).getD j 0).toNat = false) := by
              refine ⟨fun x hx => ?_, fun j hj => ?_⟩
              · unfold outM at hx
                split at hx
                · cases hx
                · exact hK.out.1 x hx
              · unfold outM
                split
                · rfl
                · rename_i hne
                  refine hK.out.2 j ?_
                  by_cases e : j = y
                  · subst e
                    rw [HZ.out.1, Int.toNat_natCast] at hne
                    exact absurd rfl hne
                  · omega
            generalize K z = kz
            clear c1 g0 g1 h7 hC7 hO7 hv7 hU7 hS8 hu8 hK
            go_wp2_with fail
            go_roundg (t - (y + 1))
            case measure => omega
            case rel => exact ⟨y + 1, _, by go_num, by omega, Nat.le_refl _, h8, hC8, hO8, hv8, hU8, hK8⟩
          · obtain rfl : y = t := by omega
            have hK0 : K = fun _ => false := by
              funext x
              cases hx : K x with
              | false => rfl
              | true =>
                have hU := hK.out.1 x hx
                have hm : ((x : Nat) : Int) ∈ elems U n := (mem_elemsF n 0 _).2 ⟨x, rfl, by omega, by have := h7.ms.in x hx; omega, hU⟩
                obtain ⟨j, hj, e⟩ := List.getElem_of_mem hm
                have := hK.out.2 j (by rw [HL.out.1]; exact hj)
                rw [List.getD_eq_getElem?_getD, List.getElem?_eq_getElem hj, Option.getD_some, e, Int.toNat_natCast, hx] at this
                cases this
            subst hK0
            have HF := Lib.hid (And.intro h7 (And.intro hO7 hU7))
            clear h7 hC7 hO7 hv7 hU7 hK
            go_wp2_with fail
            go_ret
            exact ⟨_, rfl, HF.out.2.1.weak (by have := HH.out; have := HB2.out; omega), HF.out.1, HF.out.2.2⟩
end
end Go.Proofs.YtpbghoddemffhaaDoor
