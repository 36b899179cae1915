/- For every record and every cut: RecordReturns answers true, and its arguments read afterwards as before; no condition. -/
import Derived.Test.YtcohdlochpjnjaaB4
import Derived.Test.YtcohdlochpjnjaaRows
import Derived.ShutString
set_option linter.all false
section
open Go Go.Vm
namespace Go.Proofs.Ytcohdlochpjnjaa
set_option maxRecDepth 100000
set_option maxHeartbeats 4000000
set_option linter.unusedSimpArgs false
attribute [local irreducible] Tri Does DoesB Rounds decode encB check bytesOf sameB
theorem returns_does (r : Rec) (c : Int) (hc0 : 0 ≤ c) (hc1 : c < 65536) (h1 : r.an = true → r.atts = []) (h2 : r.dn = true → r.dels = []) : Does Try.prog 5 [.agg (recC r), .c (.int .u16 c)] (.c (.bool true)) := by
  have l0 := awake_does
  have l1 := few_does r
  refine Does.of_body Try.func5 rfl (by kernel_rfl) rfl rfl (by simp) ?_
  intro E
  cases hf : (decide (r.atts.length ≤ 150) && decide (r.dels.length ≤ 100))
  case false =>
    rw [hf] at l1
    simp only [recC] at l1 ⊢
    repeat (first
      | (refine Tri.seq fun K hK => ?_)
      | (refine Tri.region ?_; simp [upd])
      | (refine Tri.draw (by kernel_rfl) (by kernel_rfl) ?_; simp [upd])
      | (refine Tri.cond_true ?_ ?_; (focus simp [upd]; done))
      | (refine Tri.cond_false ?_ ?_; (focus simp [upd]; done))
      | (refine Tri.skip ?_; simp only [thenS, blockS])
      | (refine Tri.block_seq ?_)
      | (refine Tri.block_region ?_)
      | (refine Tri.block_cond ?_)
      | ((with_reducible refine CallK.pure (l0) (Wks.refl _) ?_); simp [upd])
      | ((with_reducible refine CallK.pure (l1) (Wks.refl _) ?_); simp [upd])
      | (refine Tri.exit ?_; simp [upd]; first | (rename ∀ st, Tri _ _ _ st _ → _ => hK; apply hK; clear hK) | (rename ∀ st, Tri _ _ _ st _ → _ => hK; clear hK; rename ∀ st, Tri _ _ _ st _ → _ => hK; apply hK; clear hK) | (rename ∀ st, Tri _ _ _ st _ → _ => hK; clear hK; rename ∀ st, Tri _ _ _ st _ → _ => hK; clear hK; rename ∀ st, Tri _ _ _ st _ → _ => hK; apply hK; clear hK) | (rename ∀ st, Tri _ _ _ st _ → _ => hK; clear hK; rename ∀ st, Tri _ _ _ st _ → _ => hK; clear hK; rename ∀ st, Tri _ _ _ st _ → _ => hK; clear hK; rename ∀ st, Tri _ _ _ st _ → _ => hK; apply hK; clear hK) | (rename ∀ st, Tri _ _ _ st _ → _ => hK; clear hK; rename ∀ st, Tri _ _ _ st _ → _ => hK; clear hK; rename ∀ st, Tri _ _ _ st _ → _ => hK; clear hK; rename ∀ st, Tri _ _ _ st _ → _ => hK; clear hK; rename ∀ st, Tri _ _ _ st _ → _ => hK; apply hK; clear hK) | (rename ∀ st, Tri _ _ _ st _ → _ => hK; clear hK; rename ∀ st, Tri _ _ _ st _ → _ => hK; clear hK; rename ∀ st, Tri _ _ _ st _ → _ => hK; clear hK; rename ∀ st, Tri _ _ _ st _ → _ => hK; clear hK; rename ∀ st, Tri _ _ _ st _ → _ => hK; clear hK; rename ∀ st, Tri _ _ _ st _ → _ => hK; apply hK; clear hK) | skip)
      | (intro β)
      | (rename ∀ st, Tri _ _ _ st _ → _ => hK; apply hK; clear hK))
    refine Tri.ret ⟨_, rfl, ?_⟩
    simp [upd]
    exact Wk.refl _
  rw [hf] at l1
  simp only [Bool.and_eq_true, decide_eq_true_eq] at hf
  have hok : RecOk r := ⟨h1, h2, by omega, by omega⟩
  have l2 := cp_does r hok
  have l3 := encode_does r (fun h => enc_len ((check_iff r).1 h))
  have l4 := check_does r
  by_cases hc : check r = 0
  case neg =>
    rw [if_neg hc] at l3
    have hc' : (check r == 0) = false := by simp [hc]
    simp only [recC] at l1 l2 l3 l4 ⊢
    repeat (first
      | (refine Tri.seq fun K hK => ?_)
      | (refine Tri.region ?_; simp [upd, hc, hc', bne])
      | (refine Tri.draw (by kernel_rfl) (by kernel_rfl) ?_; simp [upd, hc, hc', bne])
      | (refine Tri.cond_true ?_ ?_; (focus simp [upd, hc, hc', bne]; done))
      | (refine Tri.cond_false ?_ ?_; (focus simp [upd, hc, hc', bne]; done))
      | (refine Tri.skip ?_; simp only [thenS, blockS])
      | (refine Tri.block_seq ?_)
      | (refine Tri.block_region ?_)
      | (refine Tri.block_cond ?_)
      | ((with_reducible refine CallK.pure (l0) (Wks.refl _) ?_); simp [upd, hc, hc', bne])
      | ((with_reducible refine CallK.pure (l1) (Wks.refl _) ?_); simp [upd, hc, hc', bne])
      | ((with_reducible refine CallK.pure (l2) (Wks.refl _) ?_); simp [upd, hc, hc', bne])
      | ((with_reducible refine CallK.pure (l3) (Wks.refl _) ?_); simp [upd, hc, hc', bne])
      | ((with_reducible refine CallK.pure (l4) (Wks.refl _) ?_); simp [upd, hc, hc', bne])
      | (refine Tri.exit ?_; simp [upd, hc, hc', bne]; first | (rename ∀ st, Tri _ _ _ st _ → _ => hK; apply hK; clear hK) | (rename ∀ st, Tri _ _ _ st _ → _ => hK; clear hK; rename ∀ st, Tri _ _ _ st _ → _ => hK; apply hK; clear hK) | (rename ∀ st, Tri _ _ _ st _ → _ => hK; clear hK; rename ∀ st, Tri _ _ _ st _ → _ => hK; clear hK; rename ∀ st, Tri _ _ _ st _ → _ => hK; apply hK; clear hK) | (rename ∀ st, Tri _ _ _ st _ → _ => hK; clear hK; rename ∀ st, Tri _ _ _ st _ → _ => hK; clear hK; rename ∀ st, Tri _ _ _ st _ → _ => hK; clear hK; rename ∀ st, Tri _ _ _ st _ → _ => hK; apply hK; clear hK) | (rename ∀ st, Tri _ _ _ st _ → _ => hK; clear hK; rename ∀ st, Tri _ _ _ st _ → _ => hK; clear hK; rename ∀ st, Tri _ _ _ st _ → _ => hK; clear hK; rename ∀ st, Tri _ _ _ st _ → _ => hK; clear hK; rename ∀ st, Tri _ _ _ st _ → _ => hK; apply hK; clear hK) | (rename ∀ st, Tri _ _ _ st _ → _ => hK; clear hK; rename ∀ st, Tri _ _ _ st _ → _ => hK; clear hK; rename ∀ st, Tri _ _ _ st _ → _ => hK; clear hK; rename ∀ st, Tri _ _ _ st _ → _ => hK; clear hK; rename ∀ st, Tri _ _ _ st _ → _ => hK; clear hK; rename ∀ st, Tri _ _ _ st _ → _ => hK; apply hK; clear hK) | skip)
      | (intro β)
      | (rename ∀ st, Tri _ _ _ st _ → _ => hK; apply hK; clear hK))
    refine Tri.ret ⟨_, rfl, ?_⟩
    simp [upd]
    exact Wk.refl _
  have ho := (check_iff r).1 hc
  rw [if_pos hc] at l3
  have hne := enc_ne r
  have hsz := enc_size r
  have hpos := enc_pos r
  have hlen := enc_len2 ho hf.1 hf.2
  have hpre := fun k hk => decode_prefix ho k hk
  have hdec := decode_enc ho
  rw [← hsz] at hpos hpre hlen
  generalize bytesOf (encB r) = S at *
  have hw : IntKind.i64.wrap c = c := wrap_i64 (by omega) (by omega)
  have hS0 : ¬ ((S.size : Int) = 0) := by omega
  have hE : ¬ S = ByteArray.empty := fun e => by rw [e] at hpos; simp at hpos
  have hm0 : 0 ≤ c.tmod (S.size : Int) := Int.tmod_nonneg _ hc0
  have hm1 : c.tmod (S.size : Int) < (S.size : Int) := Int.tmod_lt_of_pos _ (by omega)
  have hm2 : (c.tmod (S.size : Int)).toNat ≤ S.size := by omega
  have hSw : IntKind.i64.wrap (S.size : Int) = (S.size : Int) := wrap_i64 (by omega) (by omega)
  have l5 := decode_does S hlen
  rw [hdec] at l5
  have l6 := decode_does (S.extract 0 (c.tmod (S.size : Int)).toNat) (by rw [ByteArray.size_extract]; omega)
  rw [hpre _ (by omega)] at l6
  have l7 := same_does (norm r) r (by simp [norm]; omega) (by simp [norm]; omega)
  rw [(sameB_iff (norm r) r).2 ⟨rfl, rfl, rfl⟩] at l7
  simp only [recC] at l1 l2 l3 l4 l5 l6 l7 ⊢
  repeat (first
    | (refine Tri.seq fun K hK => ?_)
    | (refine Tri.region ?_; simp [upd, hc, hne, hw, hE, hm0, hm2, hSw, bne])
    | (refine Tri.draw (by kernel_rfl) (by kernel_rfl) ?_; simp [upd, hc, hne, hw, hE, hm0, hm2, hSw, bne])
    | (refine Tri.cond_true ?_ ?_; (focus simp [upd, hc, hne, hw, hE, hm0, hm2, hSw, bne]; done))
    | (refine Tri.cond_false ?_ ?_; (focus simp [upd, hc, hne, hw, hE, hm0, hm2, hSw, bne]; done))
    | (refine Tri.skip ?_; simp only [thenS, blockS])
    | (refine Tri.block_seq ?_)
    | (refine Tri.block_region ?_)
    | (refine Tri.block_cond ?_)
    | ((with_reducible refine CallK.pure (l0) (Wks.refl _) ?_); simp [upd, hc, hne, hw, hE, hm0, hm2, hSw, bne])
    | ((with_reducible refine CallK.pure (l1) (Wks.refl _) ?_); simp [upd, hc, hne, hw, hE, hm0, hm2, hSw, bne])
    | ((with_reducible refine CallK.pure (l2) (Wks.refl _) ?_); simp [upd, hc, hne, hw, hE, hm0, hm2, hSw, bne])
    | ((with_reducible refine CallK.pure (l3) (Wks.refl _) ?_); simp [upd, hc, hne, hw, hE, hm0, hm2, hSw, bne])
    | ((with_reducible refine CallK.pure (l4) (Wks.refl _) ?_); simp [upd, hc, hne, hw, hE, hm0, hm2, hSw, bne])
    | ((with_reducible refine CallK.pure (l5) (Wks.refl _) ?_); simp [upd, hc, hne, hw, hE, hm0, hm2, hSw, bne])
    | ((with_reducible refine CallK.pure (l6) (Wks.refl _) ?_); simp [upd, hc, hne, hw, hE, hm0, hm2, hSw, bne])
    | ((with_reducible refine CallK.pure (l7) (Wks.refl _) ?_); simp [upd, hc, hne, hw, hE, hm0, hm2, hSw, bne])
    | (refine Tri.exit ?_; simp [upd, hc, hne, hw, hE, hm0, hm2, hSw, bne]; first | (rename ∀ st, Tri _ _ _ st _ → _ => hK; apply hK; clear hK) | (rename ∀ st, Tri _ _ _ st _ → _ => hK; clear hK; rename ∀ st, Tri _ _ _ st _ → _ => hK; apply hK; clear hK) | (rename ∀ st, Tri _ _ _ st _ → _ => hK; clear hK; rename ∀ st, Tri _ _ _ st _ → _ => hK; clear hK; rename ∀ st, Tri _ _ _ st _ → _ => hK; apply hK; clear hK) | (rename ∀ st, Tri _ _ _ st _ → _ => hK; clear hK; rename ∀ st, Tri _ _ _ st _ → _ => hK; clear hK; rename ∀ st, Tri _ _ _ st _ → _ => hK; clear hK; rename ∀ st, Tri _ _ _ st _ → _ => hK; apply hK; clear hK) | (rename ∀ st, Tri _ _ _ st _ → _ => hK; clear hK; rename ∀ st, Tri _ _ _ st _ → _ => hK; clear hK; rename ∀ st, Tri _ _ _ st _ → _ => hK; clear hK; rename ∀ st, Tri _ _ _ st _ → _ => hK; clear hK; rename ∀ st, Tri _ _ _ st _ → _ => hK; apply hK; clear hK) | (rename ∀ st, Tri _ _ _ st _ → _ => hK; clear hK; rename ∀ st, Tri _ _ _ st _ → _ => hK; clear hK; rename ∀ st, Tri _ _ _ st _ → _ => hK; clear hK; rename ∀ st, Tri _ _ _ st _ → _ => hK; clear hK; rename ∀ st, Tri _ _ _ st _ → _ => hK; clear hK; rename ∀ st, Tri _ _ _ st _ → _ => hK; apply hK; clear hK) | skip)
    | (intro β)
    | (rename ∀ st, Tri _ _ _ st _ → _ => hK; apply hK; clear hK))
  refine Tri.ret ⟨_, rfl, ?_⟩
  simp [upd]
  exact Wk.refl _
end Go.Proofs.Ytcohdlochpjnjaa
end
section
open Go Go.Vm
open Go.ChangeShapes Go.WideShapes Go.ChangeAt Go.RowKit
namespace Go.Proofs.Ytcohdlochpjnjaa.recordReturns
set_option linter.unusedVariables false
theorem own : ownKnob Try.prog.godebug = none := by kernel_rfl
set_option maxRecDepth 100000 in
theorem lifted (os : Os) (started : os.Started) (H : Type) (enc : TypeId × Value → H) :
    ReturnsInHanded {} Try.checked os 5 .any (Rows.recordReturnsSpec.pre6 enc Try.prog Try.f5 Rows.recordReturnsRow.domain false) (Rows.recordReturnsSpec.post enc Try.prog Try.f5 false true false false) := by
  refine returnsInHanded_of_change (C := Try.checked) own started (by kernel_rfl) Try.func5
    (ChangeSpec.witness6 (enc := enc) (C := Try.checked) false ⟨#[], #[.agg #[.int .i64 0, .slice none 0 0, .slice none 0 0], .int .u16 0], []⟩ 8 (by kernel_rfl) (by kernel_rfl) (by kernel_rfl) (by kernel_rfl)) ?_
  intro W base args ds gs before hval0 hW hcnd _
  have hval : ∀ (j : Nat) t v, Try.f5.params[j]? = some t → args[j]? = some v → Value.okWide Try.prog W .any base t v := hval0
  have hW' := hW
  obtain ⟨p, q, hA0, hV, rfl, hfz, hnd⟩ := hW
  have hA : DataW.TrodAll enc Try.prog W 0 (fun _ => true) true Try.f5.params.toList args.toList ds p := hA0
  rw [Try.params5] at hA hval
  obtain ⟨v0, vs0, d0, ds0, p0, q0, hargs, rfl, rfl, h0, r0⟩ := trodAll_cons hA
  obtain ⟨v1, vs1, d1, ds1, p1, q1, hargs1, rfl, rfl, h1, r1⟩ := trodAll_cons r0
  subst hargs1
  obtain ⟨rfl, rfl, rfl⟩ := trodAll_nil r1
  obtain rfl : args = #[v0, v1] := by cases args; simp_all
  obtain ⟨rfl, rfl⟩ := trodVars_none hV
  obtain ⟨r, an, dn, al, dl, hv⟩ := open_rec (hval 0 28 v0 rfl rfl) h0
  obtain ⟨c, rfl, rfl, rfl, w1⟩ := open_int (k := .u16) (by kernel_rfl) (hval 1 39 v1 rfl rfl) h1
  clear hA0 hval0
  simp only [List.append_nil] at hW'
  have hlt := hW'.lt
  have hr : 0 ≤ c ∧ c < 65536 := by
    have := w1
    simp [Lit.wf, IntKind.min, IntKind.max, IntKind.signed, IntKind.bits] at this
    omega
  have hD := (returns_does r c hr.1 hr.2 an dn).2 (fun b _ => b < W.heap.size) W [v0, .int .u16 c] ⟨rfl, fun k hk => match k, hk with
    | 0, _ => hv
    | 1, _ => .c (.int _ _)⟩ (fun b _ h => h)
  refine hD.mono fun e W' ⟨u, F', he, hu, hl⟩ => ?_
  subst he
  have hb : Below W.heap.size W W' := ⟨hl.os, hl.tape, hl.output, hl.size, hl.block⟩
  have hu' := hu.inv
  cases hu'
  have hsame : ∀ p ∈ p0, W.sameAt W' p := fun p hp => hb.same (hlt p (by simp [hp]))
  exact ⟨_, rfl, post_below (pa := p0 ++ ([] ++ [])) (pv := []) hW' hb (by simp) (fun _ _ _ => (trodAll_cons_mk (shut_bool Try.underlying4 _) trodAll_mk0))
    (fun sp hsp => trodAll_cons_mk (WideElems.Trod_stays (by kernel_rfl) (by kernel_rfl) (by decide +kernel) h0 hsame fun p hp => hsp p (by simp [hp])) (trodAll_cons_mk (shut_int (by kernel_rfl) w1) trodAll_mk0))
    (fun _ _ => rfl) (ok_one (by kernel_rfl) rfl (okWide_bool_mk Try.underlying4 _))⟩
theorem over : Rows.recordReturnsRow.holds Try.pinned (OpenSpec.ofChange Rows.recordReturnsSpec) :=
  OpenClaim.holds_of_wide 5 Try.f5 rfl rfl rfl rfl rfl rfl rfl ⟨rfl, rfl, rfl, rfl, rfl⟩ rfl rfl rfl rfl rfl (by kernel_rfl) Try.func5 (by kernel_rfl)
    (of_decide_eq_true (by kernel_rfl)) (by unfold Func.isWrapper; first | (rw [if_pos (by decide +kernel)]; kernel_rfl) | (rw [if_neg (by decide +kernel)]; exact ⟨rfl, rfl⟩))
    (fun os started H enc _ => lifted os started H enc)
theorem proved : Rows.RecordReturnsSaid :=
  over
end Go.Proofs.Ytcohdlochpjnjaa.recordReturns
end
