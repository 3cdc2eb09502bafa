/-
  The law SpanPlays, proved of the program's text: whatever comes in, the call returns true, and each argument reads behind it as before. No condition.
-/
import Derived.Test.YtpbghoddemffhaaDoorSpanP
import Derived.Test.YtpbghoddemffhaaDoorDoor
namespace Go.Proofs.YtpbghoddemffhaaDoor.spanPlays
open Go.ChangeShapes Go.WideShapes Go.ChangeAt Go.RowKit
set_option maxRecDepth 100000 in
set_option maxHeartbeats 1000000 in
theorem lifted (os : Os) (started : os.Started) (H : Type) (enc : TypeId × Value → H) :
    ReturnsInHanded {} Tryd.checked os 4 .any (fun w args => (Rows.spanPlaysSpec.pre enc Tryd.prog Tryd.f4 [] false w args ∧ laidMetH Tryd.prog doorLaid w) ∧ sizedMet enc Tryd.prog Tryd.f4 (OpenSpec.ofChange Rows.spanPlaysSpec) false w args) (Rows.spanPlaysSpec.post enc Tryd.prog Tryd.f4 false true false false) := by
  refine returnsInHanded_of_change_and (C := Tryd.checked) (X := fun w _ => laidMetH Tryd.prog doorLaid w) (fun _ _ _ hh h => h.of_heap hh) door_own started (by kernel_rfl) Tryd.func4
    (ChangeSpec.witness_at (enc := enc) (C := Tryd.checked) (os := os) (X := fun w _ => laidMetH Tryd.prog doorLaid w) false (World.laidAll Tryd.prog os doorLaid) #[.int .i64 0, .int .i64 0, .slice none 0 0] 8 (door_os os) (by kernel_rfl) (by kernel_rfl) (by kernel_rfl) (by kernel_rfl) (by kernel_rfl) (door_met os _)) ?_
  intro W base args ds gs before hval0 hW _ _ hL _
  have hval : ∀ (j : Nat) t v, Tryd.f4.params[j]? = some t → args[j]? = some v → Value.okWide Tryd.prog W .any base t v := hval0
  have hW' := hW
  obtain ⟨p, q, hA0, hV, rfl, hfz, hnd⟩ := hW
  have hA : DataW.TrodAll enc Tryd.prog W 0 (fun _ => true) true Tryd.f4.params.toList args.toList ds p := hA0
  have hA1 := hA
  rw [Tryd.params4] at hA hval
  obtain ⟨v0, vs0, d0, ds0, p0, q0, hargs0, e0, f0, h0, r0⟩ := trodAll_cons hA
  subst e0 f0
  obtain ⟨v1, vs1, d1, ds1, p1, q1, hargs1, e1, f1, h1, r1⟩ := trodAll_cons r0
  subst e1 f1
  subst hargs1
  obtain ⟨v2, vs2, d2, ds2, p2, q2, hargs2, e2, f2, h2, r2⟩ := trodAll_cons r1
  subst e2 f2
  subst hargs2
  obtain ⟨rfl, rfl, rfl⟩ := trodAll_nil r2
  obtain rfl : args = #[v0, v1, v2] := by cases args; simp_all
  obtain ⟨rfl, rfl⟩ := trodVars_none hV
  obtain ⟨a0, rfl, rfl, rfl, w0⟩ := open_int Tryd.underlying3 (hval 0 3 v0 rfl rfl) h0
  obtain ⟨a1, rfl, rfl, rfl, w1⟩ := open_int Tryd.underlying3 (hval 1 3 v1 rfl rfl) h1
  obtain ⟨a2, n2, c2, rfl⟩ := okWide_slice Tryd.underlying32 (hval 2 32 v2 rfl rfl)
  obtain ⟨f_2, g_2, z_2, rd2, le2⟩ := trs6_of_trod h2
  simp only [List.append_nil] at hW' hA1
  refine (SpanPlays_walk W (tab_of_laid hL) a0 a1 a2 n2 c2 f_2 g_2 z_2 rd2 le2).mono fun e W' ⟨he, hb⟩ => ?_
  subst he
  exact ⟨_, rfl, law_post (by kernel_rfl) (by rw [Tryd.params4]; intro t ht; simp at ht; rcases ht with rfl | rfl | rfl <;> exact ⟨by kernel_rfl, of_decide_eq_true (by kernel_rfl)⟩) Tryd.underlying4 (by kernel_rfl) rfl hW' hA1 rfl hb rfl rfl rfl⟩
theorem over : Rows.spanPlaysRow.holds Tryd.pinned (OpenSpec.ofChange Rows.spanPlaysSpec) :=
  OpenClaim.holds_of_wide 4 Tryd.f4 rfl rfl rfl rfl rfl rfl rfl ⟨rfl, rfl, rfl, rfl, rfl⟩ rfl rfl rfl rfl rfl (by kernel_rfl) Tryd.func4 (by kernel_rfl)
    (of_decide_eq_true (by kernel_rfl)) (by unfold Func.isWrapper; first | (rw [if_pos (by decide +kernel)]; kernel_rfl) | (rw [if_neg (by decide +kernel)]; exact ⟨rfl, rfl⟩))
    (fun os started H enc _ => lifted os started H enc)
theorem card : Rows.SpanPlaysCardSaid :=
  Claim7.holds_tied_plain_at .later [] [.data] true (true, "4b5cc8ab483b8025a43a18a5bea3ab0b9d25718ab9bb7a9d0370fe709e22885d") false over (fun _ h => by cases h) (by kernel_rfl) (fun _ h => by cases h) spanPlays_row_tie rfl ⟨rfl, rfl⟩ (by kernel_rfl) rfl
    (fun f fn hf hfn => by
      obtain rfl : f = 4 := Option.some.inj ((show Tryd.prog.funcNamed "treadmill/treadmilllaw6.SpanPlays" = some 4 by kernel_rfl).symm.trans hf) |>.symm
      obtain rfl : fn = Tryd.f4 := (Option.some.inj (Tryd.func4.symm.trans hfn)).symm
      exact ⟨by kernel_rfl, fun j t ht => by
        rw [Tryd.params4] at ht
        have hm : t ∈ [3, 3, 32] := by simpa using Array.mem_of_getElem? ht
        have hall : ([3, 3, 32].all fun u => !Tryd.prog.wantsStandIn u) = true := by kernel_rfl
        exact (show Tryd.prog.wantsStandIn t = false by simpa using List.all_eq_true.1 hall t hm)⟩)
    (by kernel_rfl)
theorem proved : Rows.SpanPlaysCardSaid :=
  card
#print axioms proved
end Go.Proofs.YtpbghoddemffhaaDoor.spanPlays

