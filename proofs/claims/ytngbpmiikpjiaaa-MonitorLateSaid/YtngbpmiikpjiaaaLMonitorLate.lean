/- Late returns what is specified: for any flows and record, at most 20 flows, 150 attempts and 100 deliveries. -/
import Derived.Test.YtngbpmiikpjiaaaB6
import Derived.Test.YtngbpmiikpjiaaaRows
import Derived.ShutString
set_option linter.all false
section
open Go Go.Vm
namespace Go.Proofs.Ytngbpmiikpjiaaa
set_option maxRecDepth 100000
set_option maxHeartbeats 8000000
set_option linter.unusedSimpArgs false
attribute [-simp] isObj C.isO
attribute [local irreducible] Tri Does DoesB DoesR Rounds
theorem lateN_len (l : List Flo) (r : Rec) : (lateN l r).length ≤ 1073741824 := by
  unfold lateN
  split
  · rename_i hg
    obtain ⟨hl16, hfa, -⟩ := flows_ok hg.1
    obtain ⟨hs0, hs1⟩ := check_slots hg.2
    have := flatMap_le (fun f => lateF f r) 4097 l (fun f hf => by
      obtain ⟨i, hi, rfl⟩ := List.getElem_of_mem hf
      exact lateF_len _ r (hfa i hi) hs0 hs1)
    unfold lates
    omega
  · simp
theorem few56 {l : List Flo} {r : Rec} (h : (decide (l.length ≤ 20) && (decide (r.atts.length ≤ 150) && decide (r.dels.length ≤ 100))) = true) : l.length ≤ 20 ∧ r.atts.length ≤ 150 ∧ r.dels.length ≤ 100 := by
  simp only [Bool.and_eq_true, decide_eq_true_eq] at h
  exact h
theorem monitorLate_does (l : List Flo) (nl : Bool) (r : Rec) (hn : nl = true → l = []) (ha : r.an = true → r.atts = []) (hd : r.dn = true → r.dels = []) : Does Try.prog 3 [.c (.sl nl 6 none (l.map floC)), .agg (recC r)] (.c (.bool true)) := by
  refine Does.of_body Try.func3 rfl (by kernel_rfl) rfl rfl (by simp) ?_
  intro E
  have h0 := awake_does
  have h1 := few56_does l nl r
  have h4 := late_does l nl r
  have h5 := lateR_does l nl r
  have h6 := sameLate_does (lateN l r) (lateN l r).isEmpty (lateN l r).isEmpty (lateN_len l r)
  simp only [recC] at h1 h4 h5 ⊢
  cases g : (decide (l.length ≤ 20) && (decide (r.atts.length ≤ 150) && decide (r.dels.length ≤ 100)))
  · rw [g] at h1
    repeat (first
      | (refine Tri.seq fun K hK => ?_)
      | (refine Tri.region ?_; simp [upd])
      | (refine Tri.draw (by kernel_rfl) (by decide +kernel) ?_; simp [upd])
      | (refine Tri.cond_true ?_ ?_; (focus simp [upd]; done))
      | (refine Tri.cond_false ?_ ?_; (focus simp [upd]; done))
      | (refine Tri.skip ?_; simp only [thenS, blockS])
      | (refine Tri.block_seq ?_)
      | (refine Tri.block_region ?_)
      | (refine Tri.block_cond ?_)
      | ((with_reducible refine CallK.pure (h0) (Wks.refl _) ?_); simp [upd])
      | ((with_reducible refine CallK.pure (h1) (Wks.refl _) ?_); simp [upd])
      | (refine Tri.exit ?_; simp [upd]; first | (rename ∀ st, Tri _ _ _ st _ → _ => hK; first | (apply hK; clear hK) | (clear hK; rename ∀ st, Tri _ _ _ st _ → _ => hK; first | (apply hK; clear hK) | (clear hK; rename ∀ st, Tri _ _ _ st _ → _ => hK; first | (apply hK; clear hK) | (clear hK; rename ∀ st, Tri _ _ _ st _ → _ => hK; first | (apply hK; clear hK) | (clear hK; rename ∀ st, Tri _ _ _ st _ → _ => hK; first | (apply hK; clear hK) | (clear hK; rename ∀ st, Tri _ _ _ st _ → _ => hK; apply hK; clear hK)))))) | skip)
      | (intro β)
      | (rename ∀ st, Tri _ _ _ st _ → _ => hK; apply hK; clear hK))
    refine Tri.ret ⟨_, rfl, ?_⟩
    simp [upd]
    exact Wk.refl _
  · obtain ⟨b1, b2, b3⟩ := few56 g
    rw [g] at h1
    have h2 := cloneF_does l nl hn (by omega)
    have h3 := cp_does r ⟨ha, hd, by omega, by omega⟩
    simp only [recC] at h3
    generalize lateN l r = y at *
    generalize lateE l r = e at *
    repeat (first
      | (refine Tri.seq fun K hK => ?_)
      | (refine Tri.region ?_; simp [upd])
      | (refine Tri.draw (by kernel_rfl) (by decide +kernel) ?_; simp [upd])
      | (refine Tri.draw2 [] [0, 1, 2, 3, 4, 5, 6, 7, 8, 9] [] [] (by kernel_rfl) (by kernel_rfl) (by decide) (by rfl) (by decide +kernel) ?_; simp [upd])
      | (refine Tri.cond_true ?_ ?_; (focus simp [upd]; done))
      | (refine Tri.cond_false ?_ ?_; (focus simp [upd]; done))
      | (refine Tri.skip ?_; simp only [thenS, blockS])
      | (refine Tri.block_seq ?_)
      | (refine Tri.block_region ?_)
      | (refine Tri.block_cond ?_)
      | ((with_reducible refine CallK.pure (h0) (Wks.refl _) ?_); simp [upd])
      | ((with_reducible refine CallK.pure (h1) (Wks.refl _) ?_); simp [upd])
      | ((with_reducible refine CallK.pure (h2) (Wks.refl _) ?_); simp [upd])
      | ((with_reducible refine CallK.pure (h3) (Wks.refl _) ?_); simp [upd])
      | ((with_reducible refine CallK.pure (h4) (Wks.refl _) ?_); simp [upd])
      | ((with_reducible refine CallK.pure (h5) (Wks.refl _) ?_); simp [upd])
      | ((with_reducible refine CallK.pure (h6) (Wks.refl _) ?_); simp [upd])
      | (refine Tri.exit ?_; simp [upd]; first | (rename ∀ st, Tri _ _ _ st _ → _ => hK; first | (apply hK; clear hK) | (clear hK; rename ∀ st, Tri _ _ _ st _ → _ => hK; first | (apply hK; clear hK) | (clear hK; rename ∀ st, Tri _ _ _ st _ → _ => hK; first | (apply hK; clear hK) | (clear hK; rename ∀ st, Tri _ _ _ st _ → _ => hK; first | (apply hK; clear hK) | (clear hK; rename ∀ st, Tri _ _ _ st _ → _ => hK; first | (apply hK; clear hK) | (clear hK; rename ∀ st, Tri _ _ _ st _ → _ => hK; apply hK; clear hK)))))) | skip)
      | (intro β)
      | (rename ∀ st, Tri _ _ _ st _ → _ => hK; apply hK; clear hK))
    refine Tri.ret ⟨_, rfl, ?_⟩
    simp [upd]
    exact Wk.refl _
end Go.Proofs.Ytngbpmiikpjiaaa
end
section
open Go Go.Vm
open Go.ChangeShapes Go.WideShapes Go.ChangeAt Go.RowKit
namespace Go.Proofs.Ytngbpmiikpjiaaa.monitorLate
set_option linter.unusedVariables false
theorem own : ownKnob Try.prog.godebug = none := by kernel_rfl
set_option maxRecDepth 100000 in
theorem lifted (os : Os) (started : os.Started) (H : Type) (enc : TypeId × Value → H) :
    ReturnsInHanded {} Try.checked os 3 .any (Rows.monitorLateSpec.pre6 enc Try.prog Try.f3 Rows.monitorLateRow.domain false) (Rows.monitorLateSpec.post enc Try.prog Try.f3 false true false false) := by
  refine returnsInHanded_of_change (C := Try.checked) own started (by kernel_rfl) Try.func3
    (ChangeSpec.witness6 (enc := enc) (C := Try.checked) false ⟨#[], #[.slice none 0 0, .agg #[.int .i64 0, .slice none 0 0, .slice none 0 0]], []⟩ 8 (by kernel_rfl) (by kernel_rfl) (by kernel_rfl) (by kernel_rfl)) ?_
  intro W base args ds gs before hval0 hW hcnd _
  have hval : ∀ (j : Nat) t v, Try.f3.params[j]? = some t → args[j]? = some v → Value.okWide Try.prog W .any base t v := hval0
  have hW' := hW
  obtain ⟨p, q, hA0, hV, rfl, hfz, hnd⟩ := hW
  have hA : DataW.TrodAll enc Try.prog W 0 (fun _ => true) true Try.f3.params.toList args.toList ds p := hA0
  rw [Try.params3] at hA hval
  obtain ⟨v0, vs0, d0, ds0, p0, q0, hargs0, rfl, rfl, h0, r0⟩ := trodAll_cons hA
  obtain ⟨v1, vs1, d1, ds1, p1, q1, hargs1, rfl, rfl, h1, r1⟩ := trodAll_cons r0
  subst hargs1
  obtain ⟨rfl, rfl, rfl⟩ := trodAll_nil r1
  obtain rfl : args = #[v0, v1] := by cases args; simp_all
  obtain ⟨rfl, rfl⟩ := trodVars_none hV
  obtain ⟨ln, l, hla, hll, hv0⟩ := open_flows (hval 0 22 v0 rfl rfl) h0
  obtain ⟨r, hra, hrd, hrl, hrm, hv1⟩ := open_rec (hval 1 28 v1 rfl rfl) h1
  clear hA0 hval0
  simp only [List.append_nil] at hW'
  have hlt := hW'.lt
  have hD := (monitorLate_does l ln r hla hra hrd).2 (fun b _ => b < W.heap.size) W [v0, v1] ⟨rfl, fun k hk => match k, hk with
    | 0, _ => hv0
    | 1, _ => hv1⟩ (fun b _ h => h)
  refine hD.mono fun e W' ⟨u, F', he, hu, hl⟩ => ?_
  subst he
  have hb : Below W.heap.size W W' := ⟨hl.os, hl.tape, hl.output, hl.size, hl.block⟩
  have hu' := hu.inv
  cases hu'
  have hsame0 : ∀ p ∈ p0, W.sameAt W' p := fun p hp => hb.same (hlt p (by simp [hp]))
  have hsame1 : ∀ p ∈ p1, W.sameAt W' p := fun p hp => hb.same (hlt p (by simp [hp]))
  exact ⟨_, rfl, post_below (pa := (p0 ++ (p1 ++ []))) (pv := []) hW' hb (by simp) (fun _ _ _ => (trodAll_cons_mk (shut_bool Try.underlying4 _) trodAll_mk0))
    (fun sp hsp => (trodAll_cons_mk (WideElems.Trod_stays (by kernel_rfl) (by kernel_rfl) (by decide +kernel) h0 hsame0 fun p hp => hsp p (by simp [hp])) (trodAll_cons_mk (WideElems.Trod_stays (by kernel_rfl) (by kernel_rfl) (by decide +kernel) h1 hsame1 fun p hp => hsp p (by simp [hp])) trodAll_mk0)))
    (fun _ _ => rfl) (ok_one (by kernel_rfl) rfl (okWide_bool_mk Try.underlying4 _))⟩
theorem over : Rows.monitorLateRow.holds Try.pinned (OpenSpec.ofChange Rows.monitorLateSpec) :=
  OpenClaim.holds_of_wide 3 Try.f3 rfl rfl rfl rfl rfl rfl rfl ⟨rfl, rfl, rfl, rfl, rfl⟩ rfl rfl rfl rfl rfl (by kernel_rfl) Try.func3 (by kernel_rfl)
    (of_decide_eq_true (by kernel_rfl)) (by unfold Func.isWrapper; first | (rw [if_pos (by decide +kernel)]; kernel_rfl) | (rw [if_neg (by decide +kernel)]; exact ⟨rfl, rfl⟩))
    (fun os started H enc _ => lifted os started H enc)
theorem proved : Rows.MonitorLateSaid :=
  over
end Go.Proofs.Ytngbpmiikpjiaaa.monitorLate
end
