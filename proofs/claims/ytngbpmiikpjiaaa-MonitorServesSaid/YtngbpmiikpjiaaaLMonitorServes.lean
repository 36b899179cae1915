/- Serve and Stray return what is specified: for any flows, record and flow, at most 20 flows, 150 attempts and 100 deliveries. -/
import Derived.Test.YtngbpmiikpjiaaaB6
import Derived.Test.YtngbpmiikpjiaaaRows
import Derived.ShutString
set_option linter.all false
section
open Go Go.Vm
namespace Go.Proofs.Ytngbpmiikpjiaaa
set_option maxRecDepth 100000
set_option maxHeartbeats 8000000
set_option linter.unusedSimpArgs false
attribute [-simp] isObj C.isO
attribute [local irreducible] Tri Does DoesB DoesR Rounds
theorem lateN_len (l : List Flo) (r : Rec) : (lateN l r).length ≤ 1073741824 := by
  unfold lateN
  split
  · rename_i hg
    obtain ⟨hl16, hfa, -⟩ := flows_ok hg.1
    obtain ⟨hs0, hs1⟩ := check_slots hg.2
    have := flatMap_le (fun f => lateF f r) 4097 l (fun f hf => by
      obtain ⟨i, hi, rfl⟩ := List.getElem_of_mem hf
      exact lateF_len _ r (hfa i hi) hs0 hs1)
    unfold lates
    omega
  · simp
theorem few56 {l : List Flo} {r : Rec} (h : (decide (l.length ≤ 20) && (decide (r.atts.length ≤ 150) && decide (r.dels.length ≤ 100))) = true) : l.length ≤ 20 ∧ r.atts.length ≤ 150 ∧ r.dels.length ≤ 100 := by
  simp only [Bool.and_eq_true, decide_eq_true_eq] at h
  exact h
theorem monitorLate_does (l : List Flo) (nl : Bool) (r : Rec) (hn : nl = true → l = []) (ha : r.an = true → r.atts = []) (hd : r.dn = true → r.dels = []) : Does Try.prog 3 [.c (.sl nl 6 none (l.map floC)), .agg (recC r)] (.c (.bool true)) := by
  refine Does.of_body Try.func3 rfl (by kernel_rfl) rfl rfl (by simp) ?_
  intro E
  have h0 := awake_does
  have h1 := few56_does l nl r
  have h4 := late_does l nl r
  have h5 := lateR_does l nl r
  have h6 := sameLate_does (lateN l r) (lateN l r).isEmpty (lateN l r).isEmpty (lateN_len l r)
  simp only [recC] at h1 h4 h5 ⊢
  cases g : (decide (l.length ≤ 20) && (decide (r.atts.length ≤ 150) && decide (r.dels.length ≤ 100)))
  · rw [g] at h1
    repeat (first
      | (refine Tri.seq fun K hK => ?_)
      | (refine Tri.region ?_; simp [upd])
      | (refine Tri.draw (by kernel_rfl) (by decide +kernel) ?_; simp [upd])
      | (refine Tri.cond_true ?_ ?_; (focus simp [upd]; done))
      | (refine Tri.cond_false ?_ ?_; (focus simp [upd]; done))
      | (refine Tri.skip ?_; simp only [thenS, blockS])
      | (refine Tri.block_seq ?_)
      | (refine Tri.block_region ?_)
      | (refine Tri.block_cond ?_)
      | ((with_reducible refine CallK.pure (h0) (Wks.refl _) ?_); simp [upd])
      | ((with_reducible refine CallK.pure (h1) (Wks.refl _) ?_); simp [upd])
      | (refine Tri.exit ?_; simp [upd]; first | (rename ∀ st, Tri _ _ _ st _ → _ => hK; first | (apply hK; clear hK) | (clear hK; rename ∀ st, Tri _ _ _ st _ → _ => hK; first | (apply hK; clear hK) | (clear hK; rename ∀ st, Tri _ _ _ st _ → _ => hK; first | (apply hK; clear hK) | (clear hK; rename ∀ st, Tri _ _ _ st _ → _ => hK; first | (apply hK; clear hK) | (clear hK; rename ∀ st, Tri _ _ _ st _ → _ => hK; first | (apply hK; clear hK) | (clear hK; rename ∀ st, Tri _ _ _ st _ → _ => hK; apply hK; clear hK)))))) | skip)
      | (intro β)
      | (rename ∀ st, Tri _ _ _ st _ → _ => hK; apply hK; clear hK))
    refine Tri.ret ⟨_, rfl, ?_⟩
    simp [upd]
    exact Wk.refl _
  · obtain ⟨b1, b2, b3⟩ := few56 g
    rw [g] at h1
    have h2 := cloneF_does l nl hn (by omega)
    have h3 := cp_does r ⟨ha, hd, by omega, by omega⟩
    simp only [recC] at h3
    generalize lateN l r = y at *
    generalize lateE l r = e at *
    repeat (first
      | (refine Tri.seq fun K hK => ?_)
      | (refine Tri.region ?_; simp [upd])
      | (refine Tri.draw (by kernel_rfl) (by decide +kernel) ?_; simp [upd])
      | (refine Tri.draw2 [] [0, 1, 2, 3, 4, 5, 6, 7, 8, 9] [] [] (by kernel_rfl) (by kernel_rfl) (by decide) (by rfl) (by decide +kernel) ?_; simp [upd])
      | (refine Tri.cond_true ?_ ?_; (focus simp [upd]; done))
      | (refine Tri.cond_false ?_ ?_; (focus simp [upd]; done))
      | (refine Tri.skip ?_; simp only [thenS, blockS])
      | (refine Tri.block_seq ?_)
      | (refine Tri.block_region ?_)
      | (refine Tri.block_cond ?_)
      | ((with_reducible refine CallK.pure (h0) (Wks.refl _) ?_); simp [upd])
      | ((with_reducible refine CallK.pure (h1) (Wks.refl _) ?_); simp [upd])
      | ((with_reducible refine CallK.pure (h2) (Wks.refl _) ?_); simp [upd])
      | ((with_reducible refine CallK.pure (h3) (Wks.refl _) ?_); simp [upd])
      | ((with_reducible refine CallK.pure (h4) (Wks.refl _) ?_); simp [upd])
      | ((with_reducible refine CallK.pure (h5) (Wks.refl _) ?_); simp [upd])
      | ((with_reducible refine CallK.pure (h6) (Wks.refl _) ?_); simp [upd])
      | (refine Tri.exit ?_; simp [upd]; first | (rename ∀ st, Tri _ _ _ st _ → _ => hK; first | (apply hK; clear hK) | (clear hK; rename ∀ st, Tri _ _ _ st _ → _ => hK; first | (apply hK; clear hK) | (clear hK; rename ∀ st, Tri _ _ _ st _ → _ => hK; first | (apply hK; clear hK) | (clear hK; rename ∀ st, Tri _ _ _ st _ → _ => hK; first | (apply hK; clear hK) | (clear hK; rename ∀ st, Tri _ _ _ st _ → _ => hK; first | (apply hK; clear hK) | (clear hK; rename ∀ st, Tri _ _ _ st _ → _ => hK; apply hK; clear hK)))))) | skip)
      | (intro β)
      | (rename ∀ st, Tri _ _ _ st _ → _ => hK; apply hK; clear hK))
    refine Tri.ret ⟨_, rfl, ?_⟩
    simp [upd]
    exact Wk.refl _
end Go.Proofs.Ytngbpmiikpjiaaa
end
section
open Go Go.Vm
namespace Go.Proofs.Ytngbpmiikpjiaaa
set_option maxRecDepth 100000
set_option maxHeartbeats 8000000
set_option linter.unusedSimpArgs false
attribute [-simp] isObj C.isO
attribute [local irreducible] Tri Does DoesB DoesR Rounds check fault flowsE arr slotsOf inB findI compI delI relI
structure W0 (l : List Flo) (nl : Bool) (r : Rec) (id : Int) (x : Svc) (st : St) (b4 b6 b11 : Nat) : Prop where
  hn : st.n = 125
  s2 : st.sl 2 = .c (.int .i64 id)
  s4 : st.sl 4 = .c (.box 4 b4 0)
  x4 : st.bx 4 = some (b4, [.int .i64 r.slots, .sl r.an 8 none (r.atts.map attC), .sl r.dn 3 none (r.dels.map delC)])
  s6 : st.sl 6 = .c (.box 6 b6 0)
  x6 : st.bx 6 = some (b6, svcC svZ)
  s11 : st.sl 11 = .c (.box 11 b11 0)
  x11 : st.bx 11 = some (b11, svcC x)
def sv0 (f : Flo) (r : Rec) : Svc := { svZ with frames := compI f r.slots }
def W1 (l : List Flo) (nl : Bool) (r : Rec) (id : Int) (f : Flo) (m : Nat) (st : St) : Prop := ∃ b4 b6 b11 b10 j, m + j = (compI f r.slots).toNat ∧ W0 l nl r id { (List.range j).foldl (svF f r.dels) (sv0 f r) with frames := (j : Nat) } st b4 b6 b11 ∧
  st.sl 10 = .c (.box 10 b10 0) ∧ st.bx 10 = some (b10, floC f) ∧ st.sl 12 = .c (.int .i64 (j : Nat))
def W2 (l : List Flo) (nl : Bool) (r : Rec) (id : Int) (f : Flo) (m : Nat) (st : St) : Prop := ∃ b4 b6 b11 k, m + k = r.atts.length ∧ W0 l nl r id ((r.atts.take k).foldl (svA id) (serve1 f r)) st b4 b6 b11 ∧ st.sl 16 = .c (.int .i64 (k : Nat))
theorem serveR_does (l : List Flo) (nl : Bool) (r : Rec) (id : Int) : Does Try.prog 24 [.c (.sl nl 6 none (l.map floC)), .agg (recC r), .c (.int .i64 id)] (.tup [.agg (svcC (serveN l r id)), .c (.int .i64 (serveE l r id))]) := by
  refine Does.of_body Try.func24 rfl (by kernel_rfl) rfl rfl (by simp) ?_
  intro E
  have hr := checkM_does l nl r
  by_cases hg : flowsE l = 0 ∧ check r = 0
  case neg =>
    have e1 : serveN l r id = svZ := by rw [serveN, if_neg hg]
    have e2 : serveE l r id = 1 := by rw [serveE, if_neg hg]
    have e3 : lateE l r = 1 := by rw [lateE, if_neg hg]
    rw [e1, e2]
    rw [e3] at hr
    simp only [recC] at hr ⊢
    repeat (first
      | (refine Tri.seq fun K hK => ?_)
      | (refine Tri.region ?_; simp [upd, bne])
      | (refine Tri.draw (by kernel_rfl) (by decide +kernel) ?_; simp [upd, bne])
      | (refine Tri.cond_true ?_ ?_; (focus simp [upd, bne]; done))
      | (refine Tri.cond_false ?_ ?_; (focus simp [upd, bne]; done))
      | (refine Tri.skip ?_; simp only [thenS, blockS])
      | (refine Tri.block_seq ?_)
      | (refine Tri.block_region ?_)
      | (refine Tri.block_cond ?_)
      | ((with_reducible refine CallK.pure (hr) (Wks.refl _) ?_); simp [upd, bne])
      | (refine Tri.exit ?_; simp [upd, bne]; first | (rename ∀ st, Tri _ _ _ st _ → _ => hK; first | (apply hK; clear hK) | (clear hK; rename ∀ st, Tri _ _ _ st _ → _ => hK; first | (apply hK; clear hK) | (clear hK; rename ∀ st, Tri _ _ _ st _ → _ => hK; first | (apply hK; clear hK) | (clear hK; rename ∀ st, Tri _ _ _ st _ → _ => hK; first | (apply hK; clear hK) | (clear hK; rename ∀ st, Tri _ _ _ st _ → _ => hK; first | (apply hK; clear hK) | (clear hK; rename ∀ st, Tri _ _ _ st _ → _ => hK; apply hK; clear hK)))))) | skip)
      | (intro β)
      | (rename ∀ st, Tri _ _ _ st _ → _ => hK; apply hK; clear hK))
    exact Tri.ret ⟨.tup [.agg (svcC svZ), .c (.int .i64 1)], by simp [upd, svZ], Wk.refl _⟩
  have e3 : lateE l r = 0 := by rw [lateE, if_pos hg]
  rw [e3] at hr
  obtain ⟨hl16, hfa, -⟩ := flows_ok hg.1
  obtain ⟨hs0, hs1⟩ := check_slots hg.2
  obtain ⟨hl1, hl2⟩ := check_lens hg.2
  have hdel := check_dels hg.2
  have hfd := findR_does l nl id (by omega)
  have hdd := fun f n a b => delivered_does r f n a b (by omega)
  simp only [recC] at hr hdd ⊢
  rcases find_cases l id with ⟨hf1, hf2⟩ | ⟨i, hi, hf1, hf2⟩
  · have e1 : serveN l r id = svZ := by rw [serveN, if_pos hg, hf2]
    have e2 : serveE l r id = 7 := by rw [serveE, if_pos hg, hf1]; rfl
    rw [e1, e2]
    rw [hf1] at hfd
    repeat (first
      | (refine Tri.seq fun K hK => ?_)
      | (refine Tri.region ?_; simp [upd, bne])
      | (refine Tri.draw (by kernel_rfl) (by decide +kernel) ?_; simp [upd, bne])
      | (refine Tri.cond_true ?_ ?_; (focus simp [upd, bne]; done))
      | (refine Tri.cond_false ?_ ?_; (focus simp [upd, bne]; done))
      | (refine Tri.skip ?_; simp only [thenS, blockS])
      | (refine Tri.block_seq ?_)
      | (refine Tri.block_region ?_)
      | (refine Tri.block_cond ?_)
      | ((with_reducible refine CallK.pure (hr) (Wks.refl _) ?_); simp [upd, bne])
      | ((with_reducible refine CallK.pure (hfd) (Wks.refl _) ?_); simp [upd, bne])
      | (refine Tri.exit ?_; simp [upd, bne]; first | (rename ∀ st, Tri _ _ _ st _ → _ => hK; first | (apply hK; clear hK) | (clear hK; rename ∀ st, Tri _ _ _ st _ → _ => hK; first | (apply hK; clear hK) | (clear hK; rename ∀ st, Tri _ _ _ st _ → _ => hK; first | (apply hK; clear hK) | (clear hK; rename ∀ st, Tri _ _ _ st _ → _ => hK; first | (apply hK; clear hK) | (clear hK; rename ∀ st, Tri _ _ _ st _ → _ => hK; first | (apply hK; clear hK) | (clear hK; rename ∀ st, Tri _ _ _ st _ → _ => hK; apply hK; clear hK)))))) | skip)
      | (intro β)
      | (rename ∀ st, Tri _ _ _ st _ → _ => hK; apply hK; clear hK))
    exact Tri.ret ⟨.tup [.agg (svcC svZ), .c (.int .i64 7)], by simp [upd, svZ], Wk.refl _⟩
  have e1 : serveN l r id = serve2 id l[i] r := by rw [serveN, if_pos hg, hf2]
  have e2 : serveE l r id = 0 := by rw [serveE, if_pos hg, hf1, if_neg (by omega)]
  rw [e1, e2]
  rw [hf1] at hfd
  have hf := hfa i hi
  have hfid : l[i].id = id := by
    have := List.find?_some hf2
    simpa using this
  subst hfid
  have hcb := comp_b hf hs0 hs1
  have hfl := fault_ok hf
  repeat (first
    | (refine Tri.seq fun K hK => ?_)
    | (refine Tri.region ?_; simp [upd, bne, hi])
    | (refine Tri.draw (by kernel_rfl) (by decide +kernel) ?_; simp [upd, bne, hi])
    | (refine Tri.cond_true ?_ ?_; (focus simp [upd, bne, hi]; done))
    | (refine Tri.cond_false ?_ ?_; (focus simp [upd, bne, hi]; done))
    | (refine Tri.skip ?_; simp only [thenS, blockS])
    | (refine Tri.block_seq ?_)
    | (refine Tri.block_region ?_)
    | (refine Tri.block_cond ?_)
    | ((with_reducible refine CallK.pure (hr) (Wks.refl _) ?_); simp [upd, bne, hi])
    | ((with_reducible refine CallK.pure (hfd) (Wks.refl _) ?_); simp [upd, bne, hi])
    | (refine Tri.exit ?_; simp [upd, bne, hi]; first | (rename ∀ st, Tri _ _ _ st _ → _ => hK; first | (apply hK; clear hK) | (clear hK; rename ∀ st, Tri _ _ _ st _ → _ => hK; first | (apply hK; clear hK) | (clear hK; rename ∀ st, Tri _ _ _ st _ → _ => hK; first | (apply hK; clear hK) | (clear hK; rename ∀ st, Tri _ _ _ st _ → _ => hK; first | (apply hK; clear hK) | (clear hK; rename ∀ st, Tri _ _ _ st _ → _ => hK; first | (apply hK; clear hK) | (clear hK; rename ∀ st, Tri _ _ _ st _ → _ => hK; apply hK; clear hK)))))) | skip)
    | (intro β)
    | (rename ∀ st, Tri _ _ _ st _ → _ => hK; apply hK; clear hK))
  rename ∀ st, Tri _ _ _ st _ → _ => hK
  have fin := fun (st : St) (h : W1 l nl r l[i].id l[i] 0 st) => hK st ?tail
  case tail =>
    clear hK
    obtain ⟨b4, b6, b11, b10, j, hj, ⟨hn, s2, s4, x4, s6, x6, s11, x11⟩, s10, x10, s12⟩ := h
    have hsv : ({ (List.range j).foldl (svF l[i] r.dels) (sv0 l[i] r) with frames := (j : Nat) } : Svc) = serve1 l[i] r := by
      obtain rfl : j = (compI l[i] r.slots).toNat := by omega
      have h3 : (List.range (compI l[i] r.slots).toNat).foldl (svF l[i] r.dels) (sv0 l[i] r) = serve1 l[i] r := rfl
      have h1 := (sv_fr l[i] r.dels (sv0 l[i] r) (compI l[i] r.slots).toNat).1
      rw [h3] at h1 ⊢
      have h4 : (sv0 l[i] r).frames = compI l[i] r.slots := rfl
      have h2 : (serve1 l[i] r).frames = (((compI l[i] r.slots).toNat : Nat) : Int) := by omega
      generalize serve1 l[i] r = y at h2
      rcases y with ⟨a, b, c, d, e, g⟩
      simp only at h2
      subst h2
      rfl
    rw [hsv] at x11
    repeat (first
      | (refine Tri.seq fun K hK => ?_)
      | (refine Tri.region ?_; simp [upd, hn, s2, s4, x4, s6, x6, s11, x11])
      | (refine Tri.draw (by kernel_rfl) (by decide +kernel) ?_; simp [upd, hn, s2, s4, x4, s6, x6, s11, x11])
      | (refine Tri.cond_true ?_ ?_; (focus simp [upd, hn, s2, s4, x4, s6, x6, s11, x11]; done))
      | (refine Tri.cond_false ?_ ?_; (focus simp [upd, hn, s2, s4, x4, s6, x6, s11, x11]; done))
      | (refine Tri.skip ?_; simp only [thenS, blockS])
      | (refine Tri.block_seq ?_)
      | (refine Tri.block_region ?_)
      | (refine Tri.block_cond ?_)
      | (refine Tri.exit ?_; simp [upd, hn, s2, s4, x4, s6, x6, s11, x11]; first | (rename ∀ st, Tri _ _ _ st _ → _ => hK; first | (apply hK; clear hK) | (clear hK; rename ∀ st, Tri _ _ _ st _ → _ => hK; first | (apply hK; clear hK) | (clear hK; rename ∀ st, Tri _ _ _ st _ → _ => hK; first | (apply hK; clear hK) | (clear hK; rename ∀ st, Tri _ _ _ st _ → _ => hK; first | (apply hK; clear hK) | (clear hK; rename ∀ st, Tri _ _ _ st _ → _ => hK; first | (apply hK; clear hK) | (clear hK; rename ∀ st, Tri _ _ _ st _ → _ => hK; apply hK; clear hK)))))) | skip)
      | (intro β)
      | (rename ∀ st, Tri _ _ _ st _ → _ => hK; apply hK; clear hK))
    rename ∀ st, Tri _ _ _ st _ → _ => hK
    have fin := fun (st : St) (h : W2 l nl r l[i].id l[i] 0 st) => hK st ?tail2
    case tail2 =>
      clear hK hn s2 s4 x4 s6 x6 s11 x11
      obtain ⟨b4, b6, b11, k, hk, ⟨hn, s2, s4, x4, s6, x6, s11, x11⟩, s16⟩ := h
      rw [List.take_of_length_le (by omega)] at x11
      change st.bx 11 = some (b11, svcC (serve2 l[i].id l[i] r)) at x11
      repeat (first
        | (refine Tri.seq fun K hK => ?_)
        | (refine Tri.region ?_; simp [upd, hn, s6, x6, s11, x11, svZ])
        | (refine Tri.draw (by kernel_rfl) (by decide +kernel) ?_; simp [upd, hn, s6, x6, s11, x11, svZ])
        | (refine Tri.cond_true ?_ ?_; (focus simp [upd, hn, s6, x6, s11, x11, svZ]; done))
        | (refine Tri.cond_false ?_ ?_; (focus simp [upd, hn, s6, x6, s11, x11, svZ]; done))
        | (refine Tri.skip ?_; simp only [thenS, blockS])
        | (refine Tri.block_seq ?_)
        | (refine Tri.block_region ?_)
        | (refine Tri.block_cond ?_)
        | (refine Tri.exit ?_; simp [upd, hn, s6, x6, s11, x11, svZ]; first | (rename ∀ st, Tri _ _ _ st _ → _ => hK; first | (apply hK; clear hK) | (clear hK; rename ∀ st, Tri _ _ _ st _ → _ => hK; first | (apply hK; clear hK) | (clear hK; rename ∀ st, Tri _ _ _ st _ → _ => hK; first | (apply hK; clear hK) | (clear hK; rename ∀ st, Tri _ _ _ st _ → _ => hK; first | (apply hK; clear hK) | (clear hK; rename ∀ st, Tri _ _ _ st _ → _ => hK; first | (apply hK; clear hK) | (clear hK; rename ∀ st, Tri _ _ _ st _ → _ => hK; apply hK; clear hK)))))) | skip)
        | (intro β)
        | (rename ∀ st, Tri _ _ _ st _ → _ => hK; apply hK; clear hK))
      exact Tri.ret ⟨.tup [.agg (svcC (serve2 l[i].id l[i] r)), .c (.int .i64 0)], by simp [upd, s6], Wk.refl _⟩
    clear hK
    refine Tri.block (Tri.loop (W2 l nl r l[i].id l[i]) r.atts.length ⟨b4, b6, b11, 0, rfl, ⟨rfl, by simp [upd, s2], by simp [upd, s4], by simp [upd, x4], by simp [upd, s6], by simp [upd, x6], by simp [upd, s11], by simp [upd, x11]⟩, by simp [upd]⟩ ?_)
    clear hn s2 s4 x4 s6 x6 s11 x11 s10 x10 s12
    rintro m st ⟨b4, b6, b11, k, hm, ⟨hn, s2, s4, x4, s6, x6, s11, x11⟩, s16⟩
    by_cases hk : k < r.atts.length
    case neg =>
      repeat (first
        | (refine Tri.seq fun K hK => ?_)
        | (refine Tri.region ?_; simp [upd, hn, s2, s4, x4, s6, x6, s11, x11, s16, hk])
        | (refine Tri.draw (by kernel_rfl) (by decide +kernel) ?_; simp [upd, hn, s2, s4, x4, s6, x6, s11, x11, s16, hk])
        | (refine Tri.cond_true ?_ ?_; (focus simp [upd, hn, s2, s4, x4, s6, x6, s11, x11, s16, hk]; done))
        | (refine Tri.cond_false ?_ ?_; (focus simp [upd, hn, s2, s4, x4, s6, x6, s11, x11, s16, hk]; done))
        | (refine Tri.skip ?_; simp only [thenS, blockS])
        | (refine Tri.block_seq ?_)
        | (refine Tri.block_region ?_)
        | (refine Tri.block_cond ?_)
        | (refine Tri.exit ?_; simp [upd, hn, s2, s4, x4, s6, x6, s11, x11, s16, hk]; first | (rename ∀ st, Tri _ _ _ st _ → _ => hK; first | (apply hK; clear hK) | (clear hK; rename ∀ st, Tri _ _ _ st _ → _ => hK; first | (apply hK; clear hK) | (clear hK; rename ∀ st, Tri _ _ _ st _ → _ => hK; first | (apply hK; clear hK) | (clear hK; rename ∀ st, Tri _ _ _ st _ → _ => hK; first | (apply hK; clear hK) | (clear hK; rename ∀ st, Tri _ _ _ st _ → _ => hK; first | (apply hK; clear hK) | (clear hK; rename ∀ st, Tri _ _ _ st _ → _ => hK; apply hK; clear hK)))))) | skip)
        | (intro β)
        | (rename ∀ st, Tri _ _ _ st _ → _ => hK; apply hK; clear hK))
      apply fin
      exact ⟨b4, b6, b11, k, by omega, ⟨rfl, by simp [upd, s2], by simp [upd, s4], by simp [upd, x4], by simp [upd, s6], by simp [upd, x6], by simp [upd, s11], by simp [upd, x11]⟩, by simp [upd, s16]⟩
    have hwk : IntKind.i64.wrap ((k : Int) + 1) = (k : Int) + 1 := wrap_i64 (by omega) (by omega)
    have hnx : (r.atts.take (k + 1)).foldl (svA l[i].id) (serve1 l[i] r) = svA l[i].id ((r.atts.take k).foldl (svA l[i].id) (serve1 l[i] r)) r.atts[k] := by
      rw [List.take_succ_eq_append_getElem hk, List.foldl_append]; rfl
    obtain ⟨-, hz1, hz2, -⟩ := sv_fr l[i] r.dels { svZ with frames := compI l[i] r.slots } (compI l[i] r.slots).toNat
    change (serve1 l[i] r).att = 0 at hz1
    change (serve1 l[i] r).lost = 0 at hz2
    obtain ⟨hb1, hb2, hb3, hb4⟩ := sv_at l[i].id (r.atts.take k) (serve1 l[i] r) (by omega) (by omega)
    rw [List.length_take_of_le (by omega)] at hb2 hb4
    generalize (r.atts.take k).foldl (svA l[i].id) (serve1 l[i] r) = x at *
    have w1 : IntKind.i64.wrap (x.att + 1) = x.att + 1 := wrap_i64 (by omega) (by omega)
    have w2 : IntKind.i64.wrap (x.lost + 1) = x.lost + 1 := wrap_i64 (by omega) (by omega)
    rw [svA] at hnx
    cases m1 : (r.atts[k].flow == l[i].id)
    case false =>
      rw [if_neg (fun h => by simp [h.1] at m1)] at hnx
      repeat (first
        | (refine Tri.seq fun K hK => ?_)
        | (refine Tri.region ?_; simp [upd, hn, s2, s4, x4, s6, x6, s11, x11, s16, hk, w1, w2, hwk, bne, m1])
        | (refine Tri.draw (by kernel_rfl) (by decide +kernel) ?_; simp [upd, hn, s2, s4, x4, s6, x6, s11, x11, s16, hk, w1, w2, hwk, bne, m1])
        | (refine Tri.cond_true ?_ ?_; (focus simp [upd, hn, s2, s4, x4, s6, x6, s11, x11, s16, hk, w1, w2, hwk, bne, m1]; done))
        | (refine Tri.cond_false ?_ ?_; (focus simp [upd, hn, s2, s4, x4, s6, x6, s11, x11, s16, hk, w1, w2, hwk, bne, m1]; done))
        | (refine Tri.skip ?_; simp only [thenS, blockS])
        | (refine Tri.block_seq ?_)
        | (refine Tri.block_region ?_)
        | (refine Tri.block_cond ?_)
        | (refine Tri.exit ?_; simp [upd, hn, s2, s4, x4, s6, x6, s11, x11, s16, hk, w1, w2, hwk, bne, m1]; first | (rename ∀ st, Tri _ _ _ st _ → _ => hK; first | (apply hK; clear hK) | (clear hK; rename ∀ st, Tri _ _ _ st _ → _ => hK; first | (apply hK; clear hK) | (clear hK; rename ∀ st, Tri _ _ _ st _ → _ => hK; first | (apply hK; clear hK) | (clear hK; rename ∀ st, Tri _ _ _ st _ → _ => hK; first | (apply hK; clear hK) | (clear hK; rename ∀ st, Tri _ _ _ st _ → _ => hK; first | (apply hK; clear hK) | (clear hK; rename ∀ st, Tri _ _ _ st _ → _ => hK; apply hK; clear hK)))))) | skip)
        | (intro β)
        | (rename ∀ st, Tri _ _ _ st _ → _ => hK; apply hK; clear hK))
      exact ⟨m - 1, by omega, b4, b6, b11, k + 1, by omega, ⟨rfl, by simp [upd, s2], by simp [upd, s4], by simp [upd, x4], by simp [upd, s6], by simp [upd, x6], by simp [upd, s11], by rw [hnx]; simp [upd, x11, w1]⟩, by simp [upd]⟩
    cases m2 : (r.atts[k].out == 4)
    case true =>
      rw [if_neg (fun h => h.2 (by simpa using m2))] at hnx
      repeat (first
        | (refine Tri.seq fun K hK => ?_)
        | (refine Tri.region ?_; simp [upd, hn, s2, s4, x4, s6, x6, s11, x11, s16, hk, w1, w2, hwk, bne, m1, m2])
        | (refine Tri.draw (by kernel_rfl) (by decide +kernel) ?_; simp [upd, hn, s2, s4, x4, s6, x6, s11, x11, s16, hk, w1, w2, hwk, bne, m1, m2])
        | (refine Tri.cond_true ?_ ?_; (focus simp [upd, hn, s2, s4, x4, s6, x6, s11, x11, s16, hk, w1, w2, hwk, bne, m1, m2]; done))
        | (refine Tri.cond_false ?_ ?_; (focus simp [upd, hn, s2, s4, x4, s6, x6, s11, x11, s16, hk, w1, w2, hwk, bne, m1, m2]; done))
        | (refine Tri.skip ?_; simp only [thenS, blockS])
        | (refine Tri.block_seq ?_)
        | (refine Tri.block_region ?_)
        | (refine Tri.block_cond ?_)
        | (refine Tri.exit ?_; simp [upd, hn, s2, s4, x4, s6, x6, s11, x11, s16, hk, w1, w2, hwk, bne, m1, m2]; first | (rename ∀ st, Tri _ _ _ st _ → _ => hK; first | (apply hK; clear hK) | (clear hK; rename ∀ st, Tri _ _ _ st _ → _ => hK; first | (apply hK; clear hK) | (clear hK; rename ∀ st, Tri _ _ _ st _ → _ => hK; first | (apply hK; clear hK) | (clear hK; rename ∀ st, Tri _ _ _ st _ → _ => hK; first | (apply hK; clear hK) | (clear hK; rename ∀ st, Tri _ _ _ st _ → _ => hK; first | (apply hK; clear hK) | (clear hK; rename ∀ st, Tri _ _ _ st _ → _ => hK; apply hK; clear hK)))))) | skip)
        | (intro β)
        | (rename ∀ st, Tri _ _ _ st _ → _ => hK; apply hK; clear hK))
      exact ⟨m - 1, by omega, b4, b6, b11, k + 1, by omega, ⟨rfl, by simp [upd, s2], by simp [upd, s4], by simp [upd, x4], by simp [upd, s6], by simp [upd, x6], by simp [upd, s11], by rw [hnx]; simp [upd, x11, w1]⟩, by simp [upd]⟩
    rw [if_pos ⟨by simpa using m1, by simpa using m2⟩] at hnx
    cases m3 : (r.atts[k].out == 1)
    case true =>
      repeat (first
        | (refine Tri.seq fun K hK => ?_)
        | (refine Tri.region ?_; simp [upd, hn, s2, s4, x4, s6, x6, s11, x11, s16, hk, w1, w2, hwk, bne, m1, m2, m3])
        | (refine Tri.draw (by kernel_rfl) (by decide +kernel) ?_; simp [upd, hn, s2, s4, x4, s6, x6, s11, x11, s16, hk, w1, w2, hwk, bne, m1, m2, m3])
        | (refine Tri.cond_true ?_ ?_; (focus simp [upd, hn, s2, s4, x4, s6, x6, s11, x11, s16, hk, w1, w2, hwk, bne, m1, m2, m3]; done))
        | (refine Tri.cond_false ?_ ?_; (focus simp [upd, hn, s2, s4, x4, s6, x6, s11, x11, s16, hk, w1, w2, hwk, bne, m1, m2, m3]; done))
        | (refine Tri.skip ?_; simp only [thenS, blockS])
        | (refine Tri.block_seq ?_)
        | (refine Tri.block_region ?_)
        | (refine Tri.block_cond ?_)
        | (refine Tri.exit ?_; simp [upd, hn, s2, s4, x4, s6, x6, s11, x11, s16, hk, w1, w2, hwk, bne, m1, m2, m3]; first | (rename ∀ st, Tri _ _ _ st _ → _ => hK; first | (apply hK; clear hK) | (clear hK; rename ∀ st, Tri _ _ _ st _ → _ => hK; first | (apply hK; clear hK) | (clear hK; rename ∀ st, Tri _ _ _ st _ → _ => hK; first | (apply hK; clear hK) | (clear hK; rename ∀ st, Tri _ _ _ st _ → _ => hK; first | (apply hK; clear hK) | (clear hK; rename ∀ st, Tri _ _ _ st _ → _ => hK; first | (apply hK; clear hK) | (clear hK; rename ∀ st, Tri _ _ _ st _ → _ => hK; apply hK; clear hK)))))) | skip)
        | (intro β)
        | (rename ∀ st, Tri _ _ _ st _ → _ => hK; apply hK; clear hK))
      exact ⟨m - 1, by omega, b4, b6, b11, k + 1, by omega, ⟨rfl, by simp [upd, s2], by simp [upd, s4], by simp [upd, x4], by simp [upd, s6], by simp [upd, x6], by simp [upd, s11], by rw [hnx]; simp [upd, x11, (show r.atts[k].out = 1 by simpa using m3)]⟩, by simp [upd]⟩
    case false =>
      repeat (first
        | (refine Tri.seq fun K hK => ?_)
        | (refine Tri.region ?_; simp [upd, hn, s2, s4, x4, s6, x6, s11, x11, s16, hk, w1, w2, hwk, bne, m1, m2, m3])
        | (refine Tri.draw (by kernel_rfl) (by decide +kernel) ?_; simp [upd, hn, s2, s4, x4, s6, x6, s11, x11, s16, hk, w1, w2, hwk, bne, m1, m2, m3])
        | (refine Tri.cond_true ?_ ?_; (focus simp [upd, hn, s2, s4, x4, s6, x6, s11, x11, s16, hk, w1, w2, hwk, bne, m1, m2, m3]; done))
        | (refine Tri.cond_false ?_ ?_; (focus simp [upd, hn, s2, s4, x4, s6, x6, s11, x11, s16, hk, w1, w2, hwk, bne, m1, m2, m3]; done))
        | (refine Tri.skip ?_; simp only [thenS, blockS])
        | (refine Tri.block_seq ?_)
        | (refine Tri.block_region ?_)
        | (refine Tri.block_cond ?_)
        | (refine Tri.exit ?_; simp [upd, hn, s2, s4, x4, s6, x6, s11, x11, s16, hk, w1, w2, hwk, bne, m1, m2, m3]; first | (rename ∀ st, Tri _ _ _ st _ → _ => hK; first | (apply hK; clear hK) | (clear hK; rename ∀ st, Tri _ _ _ st _ → _ => hK; first | (apply hK; clear hK) | (clear hK; rename ∀ st, Tri _ _ _ st _ → _ => hK; first | (apply hK; clear hK) | (clear hK; rename ∀ st, Tri _ _ _ st _ → _ => hK; first | (apply hK; clear hK) | (clear hK; rename ∀ st, Tri _ _ _ st _ → _ => hK; first | (apply hK; clear hK) | (clear hK; rename ∀ st, Tri _ _ _ st _ → _ => hK; apply hK; clear hK)))))) | skip)
        | (intro β)
        | (rename ∀ st, Tri _ _ _ st _ → _ => hK; apply hK; clear hK))
      exact ⟨m - 1, by omega, b4, b6, b11, k + 1, by omega, ⟨rfl, by simp [upd, s2], by simp [upd, s4], by simp [upd, x4], by simp [upd, s6], by simp [upd, x6], by simp [upd, s11], by rw [hnx]; simp [upd, x11, (show ¬ r.atts[k].out = 1 by simpa using m3)]⟩, by simp [upd]⟩
  clear hK
  refine Tri.block (Tri.loop (W1 l nl r l[i].id l[i]) (compI l[i] r.slots).toNat ⟨_, _, _, _, 0, rfl, ⟨rfl, by simp [upd], by simp [upd] <;> exact rfl, by simp [upd] <;> exact rfl, by simp [upd] <;> exact rfl, by simp [upd, svZ] <;> exact rfl, by simp [upd] <;> exact rfl, by simp [upd, svZ, sv0] <;> exact rfl⟩, by simp [upd] <;> exact rfl, by simp [upd] <;> exact rfl, by simp [upd]⟩ ?_)
  rintro m st ⟨b4, b6, b11, b10, j, hj, ⟨hn, s2, s4, x4, s6, x6, s11, x11⟩, s10, x10, s12⟩
  have hrel := relR_does l[i] j hfl (by omega) (by omega)
  have hrb := relI_b (k := j) hfl (by omega) (by omega)
  have hci := comp_iff (s := r.slots) hfl j
  have hd1 := hdd l[i] j (relI l[i] j) (relI l[i] j + l[i].dea - 1)
  have har := arrI_del l[i] j r.dels hdel j
  have hin := arrI_in (f := l[i]) (k := j) (l := slotsOf l[i].id j r.dels)
  have hre : relI l[i] j = l[i].pha + j * l[i].per := by unfold relI; rfl
  obtain ⟨-, -, -, -, p1, p2, q0, q1, d1, d2, -⟩ := hfl
  have w3 : IntKind.i64.wrap (relI l[i] j + l[i].dea) = relI l[i] j + l[i].dea := wrap_i64 (by omega) (by omega)
  have w4 : IntKind.i64.wrap (relI l[i] j + l[i].dea - 1) = relI l[i] j + l[i].dea - 1 := wrap_i64 (by omega) (by omega)
  have hwj : IntKind.i64.wrap ((j : Int) + 1) = (j : Int) + 1 := wrap_i64 (by omega) (by omega)
  have hnx := range_succ_foldl (svF l[i] r.dels) (sv0 l[i] r) j
  obtain ⟨-, -, -, hb1, hb2⟩ := sv_fr l[i] r.dels (sv0 l[i] r) j
  generalize hx : (List.range j).foldl (svF l[i] r.dels) (sv0 l[i] r) = x at *
  change (0 : Int) ≤ _ at hb1
  change _ ≤ (0 : Int) + j at hb2
  have hjb : j ≤ 4097 := by omega
  have w1 : IntKind.i64.wrap (x.late + 1) = x.late + 1 := wrap_i64 (by omega) (by omega)
  rw [svF] at hnx
  by_cases hcj : relI l[i] j + l[i].dea ≤ r.slots
  case neg =>
    have w5 : True := trivial
    repeat (first
      | (refine Tri.seq fun K hK => ?_)
      | (refine Tri.region ?_; simp [upd, hn, s2, s4, x4, s6, x6, s11, x11, s10, x10, s12, w1, w3, w4, w5, hwj, hcj])
      | (refine Tri.draw (by kernel_rfl) (by decide +kernel) ?_; simp [upd, hn, s2, s4, x4, s6, x6, s11, x11, s10, x10, s12, w1, w3, w4, w5, hwj, hcj])
      | (refine Tri.draw2 [] [0, 1, 2, 3, 4, 5, 6, 7, 8] [] [] (by kernel_rfl) (by kernel_rfl) (by decide) (by rfl) (by decide +kernel) ?_; simp [upd, hn, s2, s4, x4, s6, x6, s11, x11, s10, x10, s12, w1, w3, w4, w5, hwj, hcj])
      | (refine Tri.cond_true ?_ ?_; (focus simp [upd, hn, s2, s4, x4, s6, x6, s11, x11, s10, x10, s12, w1, w3, w4, w5, hwj, hcj]; done))
      | (refine Tri.cond_false ?_ ?_; (focus simp [upd, hn, s2, s4, x4, s6, x6, s11, x11, s10, x10, s12, w1, w3, w4, w5, hwj, hcj]; done))
      | (refine Tri.skip ?_; simp only [thenS, blockS])
      | (refine Tri.block_seq ?_)
      | (refine Tri.block_region ?_)
      | (refine Tri.block_cond ?_)
      | ((with_reducible refine CallK.pure (hrel) (Wks.refl _) ?_); simp [upd, hn, s2, s4, x4, s6, x6, s11, x11, s10, x10, s12, w1, w3, w4, w5, hwj, hcj])
      | ((with_reducible refine CallK.pure (hd1) (Wks.refl _) ?_); simp [upd, hn, s2, s4, x4, s6, x6, s11, x11, s10, x10, s12, w1, w3, w4, w5, hwj, hcj])
      | (refine Tri.exit ?_; simp [upd, hn, s2, s4, x4, s6, x6, s11, x11, s10, x10, s12, w1, w3, w4, w5, hwj, hcj]; first | (rename ∀ st, Tri _ _ _ st _ → _ => hK; first | (apply hK; clear hK) | (clear hK; rename ∀ st, Tri _ _ _ st _ → _ => hK; first | (apply hK; clear hK) | (clear hK; rename ∀ st, Tri _ _ _ st _ → _ => hK; first | (apply hK; clear hK) | (clear hK; rename ∀ st, Tri _ _ _ st _ → _ => hK; first | (apply hK; clear hK) | (clear hK; rename ∀ st, Tri _ _ _ st _ → _ => hK; first | (apply hK; clear hK) | (clear hK; rename ∀ st, Tri _ _ _ st _ → _ => hK; apply hK; clear hK)))))) | skip)
      | (intro β)
      | (rename ∀ st, Tri _ _ _ st _ → _ => hK; apply hK; clear hK))
    apply fin
    exact ⟨b4, b6, b11, b10, j, by omega, ⟨rfl, by simp [upd, s2], by simp [upd, s4], by simp [upd, x4], by simp [upd, s6], by simp [upd, x6], by simp [upd, s11], by simp [upd, x11, hx]⟩, by simp [upd, s10], by simp [upd, x10], by simp [upd, s12]⟩
  have hjc := hci.1 hcj
  rw [har] at hnx hin
  generalize delI l[i].id j (relI l[i] j) (relI l[i] j + l[i].dea - 1) r.dels = s0 at *
  by_cases hq : s0 < 0
  case pos =>
    have w5 : True := trivial
    rw [if_pos hq] at hnx
    rw [if_neg (by simp)] at hnx
    repeat (first
      | (refine Tri.seq fun K hK => ?_)
      | (refine Tri.region ?_; simp [upd, hn, s2, s4, x4, s6, x6, s11, x11, s10, x10, s12, w1, w3, w4, w5, hwj, hcj, hq])
      | (refine Tri.draw (by kernel_rfl) (by decide +kernel) ?_; simp [upd, hn, s2, s4, x4, s6, x6, s11, x11, s10, x10, s12, w1, w3, w4, w5, hwj, hcj, hq])
      | (refine Tri.draw2 [] [0, 1, 2, 3, 4, 5, 6, 7, 8] [] [] (by kernel_rfl) (by kernel_rfl) (by decide) (by rfl) (by decide +kernel) ?_; simp [upd, hn, s2, s4, x4, s6, x6, s11, x11, s10, x10, s12, w1, w3, w4, w5, hwj, hcj, hq])
      | (refine Tri.cond_true ?_ ?_; (focus simp [upd, hn, s2, s4, x4, s6, x6, s11, x11, s10, x10, s12, w1, w3, w4, w5, hwj, hcj, hq]; done))
      | (refine Tri.cond_false ?_ ?_; (focus simp [upd, hn, s2, s4, x4, s6, x6, s11, x11, s10, x10, s12, w1, w3, w4, w5, hwj, hcj, hq]; done))
      | (refine Tri.skip ?_; simp only [thenS, blockS])
      | (refine Tri.block_seq ?_)
      | (refine Tri.block_region ?_)
      | (refine Tri.block_cond ?_)
      | ((with_reducible refine CallK.pure (hrel) (Wks.refl _) ?_); simp [upd, hn, s2, s4, x4, s6, x6, s11, x11, s10, x10, s12, w1, w3, w4, w5, hwj, hcj, hq])
      | ((with_reducible refine CallK.pure (hd1) (Wks.refl _) ?_); simp [upd, hn, s2, s4, x4, s6, x6, s11, x11, s10, x10, s12, w1, w3, w4, w5, hwj, hcj, hq])
      | (refine Tri.exit ?_; simp [upd, hn, s2, s4, x4, s6, x6, s11, x11, s10, x10, s12, w1, w3, w4, w5, hwj, hcj, hq]; first | (rename ∀ st, Tri _ _ _ st _ → _ => hK; first | (apply hK; clear hK) | (clear hK; rename ∀ st, Tri _ _ _ st _ → _ => hK; first | (apply hK; clear hK) | (clear hK; rename ∀ st, Tri _ _ _ st _ → _ => hK; first | (apply hK; clear hK) | (clear hK; rename ∀ st, Tri _ _ _ st _ → _ => hK; first | (apply hK; clear hK) | (clear hK; rename ∀ st, Tri _ _ _ st _ → _ => hK; first | (apply hK; clear hK) | (clear hK; rename ∀ st, Tri _ _ _ st _ → _ => hK; apply hK; clear hK)))))) | skip)
      | (intro β)
      | (rename ∀ st, Tri _ _ _ st _ → _ => hK; apply hK; clear hK))
    exact ⟨m - 1, by omega, b4, b6, b11, b10, j + 1, by omega, ⟨rfl, by simp [upd, s2], by simp [upd, s4], by simp [upd, x4], by simp [upd, s6], by simp [upd, x6], by simp [upd, s11], by rw [hnx]; simp [upd, svL, w1]⟩, by simp [upd, s10], by simp [upd, x10], by simp [upd]⟩
  rw [if_neg hq] at hnx hin
  rw [if_pos rfl] at hnx
  have hin := hin rfl
  simp only at hin hnx
  have hle : s0 - l[i].pha - (j : Int) * l[i].per + 1 = s0 - relI l[i] j + 1 := by omega
  rw [hle] at hnx
  have w5 : IntKind.i64.wrap (s0 - relI l[i] j) = s0 - relI l[i] j := wrap_i64 (by omega) (by omega)
  have w6 : IntKind.i64.wrap (s0 - relI l[i] j + 1) = s0 - relI l[i] j + 1 := wrap_i64 (by omega) (by omega)
  generalize hlat : s0 - relI l[i] j + 1 = lat at *
  by_cases m1 : x.most < lat
  · cases m2 : (x.least == 0)
    · by_cases m3 : lat < x.least
      · repeat (first
          | (refine Tri.seq fun K hK => ?_)
          | (refine Tri.region ?_; simp [upd, hn, s2, s4, x4, s6, x6, s11, x11, s10, x10, s12, w1, w3, w4, w5, hwj, hcj, hq, w6, hlat, m1, m2, m3])
          | (refine Tri.draw (by kernel_rfl) (by decide +kernel) ?_; simp [upd, hn, s2, s4, x4, s6, x6, s11, x11, s10, x10, s12, w1, w3, w4, w5, hwj, hcj, hq, w6, hlat, m1, m2, m3])
          | (refine Tri.draw2 [] [0, 1, 2, 3, 4, 5, 6, 7, 8] [] [] (by kernel_rfl) (by kernel_rfl) (by decide) (by rfl) (by decide +kernel) ?_; simp [upd, hn, s2, s4, x4, s6, x6, s11, x11, s10, x10, s12, w1, w3, w4, w5, hwj, hcj, hq, w6, hlat, m1, m2, m3])
          | (refine Tri.cond_true ?_ ?_; (focus simp [upd, hn, s2, s4, x4, s6, x6, s11, x11, s10, x10, s12, w1, w3, w4, w5, hwj, hcj, hq, w6, hlat, m1, m2, m3]; done))
          | (refine Tri.cond_false ?_ ?_; (focus simp [upd, hn, s2, s4, x4, s6, x6, s11, x11, s10, x10, s12, w1, w3, w4, w5, hwj, hcj, hq, w6, hlat, m1, m2, m3]; done))
          | (refine Tri.skip ?_; simp only [thenS, blockS])
          | (refine Tri.block_seq ?_)
          | (refine Tri.block_region ?_)
          | (refine Tri.block_cond ?_)
          | ((with_reducible refine CallK.pure (hrel) (Wks.refl _) ?_); simp [upd, hn, s2, s4, x4, s6, x6, s11, x11, s10, x10, s12, w1, w3, w4, w5, hwj, hcj, hq, w6, hlat, m1, m2, m3])
          | ((with_reducible refine CallK.pure (hd1) (Wks.refl _) ?_); simp [upd, hn, s2, s4, x4, s6, x6, s11, x11, s10, x10, s12, w1, w3, w4, w5, hwj, hcj, hq, w6, hlat, m1, m2, m3])
          | (refine Tri.exit ?_; simp [upd, hn, s2, s4, x4, s6, x6, s11, x11, s10, x10, s12, w1, w3, w4, w5, hwj, hcj, hq, w6, hlat, m1, m2, m3]; first | (rename ∀ st, Tri _ _ _ st _ → _ => hK; first | (apply hK; clear hK) | (clear hK; rename ∀ st, Tri _ _ _ st _ → _ => hK; first | (apply hK; clear hK) | (clear hK; rename ∀ st, Tri _ _ _ st _ → _ => hK; first | (apply hK; clear hK) | (clear hK; rename ∀ st, Tri _ _ _ st _ → _ => hK; first | (apply hK; clear hK) | (clear hK; rename ∀ st, Tri _ _ _ st _ → _ => hK; first | (apply hK; clear hK) | (clear hK; rename ∀ st, Tri _ _ _ st _ → _ => hK; apply hK; clear hK)))))) | skip)
          | (intro β)
          | (rename ∀ st, Tri _ _ _ st _ → _ => hK; apply hK; clear hK))
        exact ⟨m - 1, by omega, b4, b6, b11, b10, j + 1, by omega, ⟨rfl, by simp [upd, s2], by simp [upd, s4], by simp [upd, x4], by simp [upd, s6], by simp [upd, x6], by simp [upd, s11], by rw [hnx]; simp [upd, svL, m1, (show ¬ x.least = 0 by simpa using m2), m3]⟩, by simp [upd, s10], by simp [upd, x10], by simp [upd]⟩
      · repeat (first
          | (refine Tri.seq fun K hK => ?_)
          | (refine Tri.region ?_; simp [upd, hn, s2, s4, x4, s6, x6, s11, x11, s10, x10, s12, w1, w3, w4, w5, hwj, hcj, hq, w6, hlat, m1, m2, m3])
          | (refine Tri.draw (by kernel_rfl) (by decide +kernel) ?_; simp [upd, hn, s2, s4, x4, s6, x6, s11, x11, s10, x10, s12, w1, w3, w4, w5, hwj, hcj, hq, w6, hlat, m1, m2, m3])
          | (refine Tri.draw2 [] [0, 1, 2, 3, 4, 5, 6, 7, 8] [] [] (by kernel_rfl) (by kernel_rfl) (by decide) (by rfl) (by decide +kernel) ?_; simp [upd, hn, s2, s4, x4, s6, x6, s11, x11, s10, x10, s12, w1, w3, w4, w5, hwj, hcj, hq, w6, hlat, m1, m2, m3])
          | (refine Tri.cond_true ?_ ?_; (focus simp [upd, hn, s2, s4, x4, s6, x6, s11, x11, s10, x10, s12, w1, w3, w4, w5, hwj, hcj, hq, w6, hlat, m1, m2, m3]; done))
          | (refine Tri.cond_false ?_ ?_; (focus simp [upd, hn, s2, s4, x4, s6, x6, s11, x11, s10, x10, s12, w1, w3, w4, w5, hwj, hcj, hq, w6, hlat, m1, m2, m3]; done))
          | (refine Tri.skip ?_; simp only [thenS, blockS])
          | (refine Tri.block_seq ?_)
          | (refine Tri.block_region ?_)
          | (refine Tri.block_cond ?_)
          | ((with_reducible refine CallK.pure (hrel) (Wks.refl _) ?_); simp [upd, hn, s2, s4, x4, s6, x6, s11, x11, s10, x10, s12, w1, w3, w4, w5, hwj, hcj, hq, w6, hlat, m1, m2, m3])
          | ((with_reducible refine CallK.pure (hd1) (Wks.refl _) ?_); simp [upd, hn, s2, s4, x4, s6, x6, s11, x11, s10, x10, s12, w1, w3, w4, w5, hwj, hcj, hq, w6, hlat, m1, m2, m3])
          | (refine Tri.exit ?_; simp [upd, hn, s2, s4, x4, s6, x6, s11, x11, s10, x10, s12, w1, w3, w4, w5, hwj, hcj, hq, w6, hlat, m1, m2, m3]; first | (rename ∀ st, Tri _ _ _ st _ → _ => hK; first | (apply hK; clear hK) | (clear hK; rename ∀ st, Tri _ _ _ st _ → _ => hK; first | (apply hK; clear hK) | (clear hK; rename ∀ st, Tri _ _ _ st _ → _ => hK; first | (apply hK; clear hK) | (clear hK; rename ∀ st, Tri _ _ _ st _ → _ => hK; first | (apply hK; clear hK) | (clear hK; rename ∀ st, Tri _ _ _ st _ → _ => hK; first | (apply hK; clear hK) | (clear hK; rename ∀ st, Tri _ _ _ st _ → _ => hK; apply hK; clear hK)))))) | skip)
          | (intro β)
          | (rename ∀ st, Tri _ _ _ st _ → _ => hK; apply hK; clear hK))
        exact ⟨m - 1, by omega, b4, b6, b11, b10, j + 1, by omega, ⟨rfl, by simp [upd, s2], by simp [upd, s4], by simp [upd, x4], by simp [upd, s6], by simp [upd, x6], by simp [upd, s11], by rw [hnx]; simp [upd, svL, m1, (show ¬ x.least = 0 by simpa using m2), m3]⟩, by simp [upd, s10], by simp [upd, x10], by simp [upd]⟩
    · repeat (first
        | (refine Tri.seq fun K hK => ?_)
        | (refine Tri.region ?_; simp [upd, hn, s2, s4, x4, s6, x6, s11, x11, s10, x10, s12, w1, w3, w4, w5, hwj, hcj, hq, w6, hlat, m1, m2])
        | (refine Tri.draw (by kernel_rfl) (by decide +kernel) ?_; simp [upd, hn, s2, s4, x4, s6, x6, s11, x11, s10, x10, s12, w1, w3, w4, w5, hwj, hcj, hq, w6, hlat, m1, m2])
        | (refine Tri.draw2 [] [0, 1, 2, 3, 4, 5, 6, 7, 8] [] [] (by kernel_rfl) (by kernel_rfl) (by decide) (by rfl) (by decide +kernel) ?_; simp [upd, hn, s2, s4, x4, s6, x6, s11, x11, s10, x10, s12, w1, w3, w4, w5, hwj, hcj, hq, w6, hlat, m1, m2])
        | (refine Tri.cond_true ?_ ?_; (focus simp [upd, hn, s2, s4, x4, s6, x6, s11, x11, s10, x10, s12, w1, w3, w4, w5, hwj, hcj, hq, w6, hlat, m1, m2]; done))
        | (refine Tri.cond_false ?_ ?_; (focus simp [upd, hn, s2, s4, x4, s6, x6, s11, x11, s10, x10, s12, w1, w3, w4, w5, hwj, hcj, hq, w6, hlat, m1, m2]; done))
        | (refine Tri.skip ?_; simp only [thenS, blockS])
        | (refine Tri.block_seq ?_)
        | (refine Tri.block_region ?_)
        | (refine Tri.block_cond ?_)
        | ((with_reducible refine CallK.pure (hrel) (Wks.refl _) ?_); simp [upd, hn, s2, s4, x4, s6, x6, s11, x11, s10, x10, s12, w1, w3, w4, w5, hwj, hcj, hq, w6, hlat, m1, m2])
        | ((with_reducible refine CallK.pure (hd1) (Wks.refl _) ?_); simp [upd, hn, s2, s4, x4, s6, x6, s11, x11, s10, x10, s12, w1, w3, w4, w5, hwj, hcj, hq, w6, hlat, m1, m2])
        | (refine Tri.exit ?_; simp [upd, hn, s2, s4, x4, s6, x6, s11, x11, s10, x10, s12, w1, w3, w4, w5, hwj, hcj, hq, w6, hlat, m1, m2]; first | (rename ∀ st, Tri _ _ _ st _ → _ => hK; first | (apply hK; clear hK) | (clear hK; rename ∀ st, Tri _ _ _ st _ → _ => hK; first | (apply hK; clear hK) | (clear hK; rename ∀ st, Tri _ _ _ st _ → _ => hK; first | (apply hK; clear hK) | (clear hK; rename ∀ st, Tri _ _ _ st _ → _ => hK; first | (apply hK; clear hK) | (clear hK; rename ∀ st, Tri _ _ _ st _ → _ => hK; first | (apply hK; clear hK) | (clear hK; rename ∀ st, Tri _ _ _ st _ → _ => hK; apply hK; clear hK)))))) | skip)
        | (intro β)
        | (rename ∀ st, Tri _ _ _ st _ → _ => hK; apply hK; clear hK))
      exact ⟨m - 1, by omega, b4, b6, b11, b10, j + 1, by omega, ⟨rfl, by simp [upd, s2], by simp [upd, s4], by simp [upd, x4], by simp [upd, s6], by simp [upd, x6], by simp [upd, s11], by rw [hnx]; simp [upd, svL, m1, (show x.least = 0 by simpa using m2)]⟩, by simp [upd, s10], by simp [upd, x10], by simp [upd]⟩
  · cases m2 : (x.least == 0)
    · by_cases m3 : lat < x.least
      · repeat (first
          | (refine Tri.seq fun K hK => ?_)
          | (refine Tri.region ?_; simp [upd, hn, s2, s4, x4, s6, x6, s11, x11, s10, x10, s12, w1, w3, w4, w5, hwj, hcj, hq, w6, hlat, m1, m2, m3])
          | (refine Tri.draw (by kernel_rfl) (by decide +kernel) ?_; simp [upd, hn, s2, s4, x4, s6, x6, s11, x11, s10, x10, s12, w1, w3, w4, w5, hwj, hcj, hq, w6, hlat, m1, m2, m3])
          | (refine Tri.draw2 [] [0, 1, 2, 3, 4, 5, 6, 7, 8] [] [] (by kernel_rfl) (by kernel_rfl) (by decide) (by rfl) (by decide +kernel) ?_; simp [upd, hn, s2, s4, x4, s6, x6, s11, x11, s10, x10, s12, w1, w3, w4, w5, hwj, hcj, hq, w6, hlat, m1, m2, m3])
          | (refine Tri.cond_true ?_ ?_; (focus simp [upd, hn, s2, s4, x4, s6, x6, s11, x11, s10, x10, s12, w1, w3, w4, w5, hwj, hcj, hq, w6, hlat, m1, m2, m3]; done))
          | (refine Tri.cond_false ?_ ?_; (focus simp [upd, hn, s2, s4, x4, s6, x6, s11, x11, s10, x10, s12, w1, w3, w4, w5, hwj, hcj, hq, w6, hlat, m1, m2, m3]; done))
          | (refine Tri.skip ?_; simp only [thenS, blockS])
          | (refine Tri.block_seq ?_)
          | (refine Tri.block_region ?_)
          | (refine Tri.block_cond ?_)
          | ((with_reducible refine CallK.pure (hrel) (Wks.refl _) ?_); simp [upd, hn, s2, s4, x4, s6, x6, s11, x11, s10, x10, s12, w1, w3, w4, w5, hwj, hcj, hq, w6, hlat, m1, m2, m3])
          | ((with_reducible refine CallK.pure (hd1) (Wks.refl _) ?_); simp [upd, hn, s2, s4, x4, s6, x6, s11, x11, s10, x10, s12, w1, w3, w4, w5, hwj, hcj, hq, w6, hlat, m1, m2, m3])
          | (refine Tri.exit ?_; simp [upd, hn, s2, s4, x4, s6, x6, s11, x11, s10, x10, s12, w1, w3, w4, w5, hwj, hcj, hq, w6, hlat, m1, m2, m3]; first | (rename ∀ st, Tri _ _ _ st _ → _ => hK; first | (apply hK; clear hK) | (clear hK; rename ∀ st, Tri _ _ _ st _ → _ => hK; first | (apply hK; clear hK) | (clear hK; rename ∀ st, Tri _ _ _ st _ → _ => hK; first | (apply hK; clear hK) | (clear hK; rename ∀ st, Tri _ _ _ st _ → _ => hK; first | (apply hK; clear hK) | (clear hK; rename ∀ st, Tri _ _ _ st _ → _ => hK; first | (apply hK; clear hK) | (clear hK; rename ∀ st, Tri _ _ _ st _ → _ => hK; apply hK; clear hK)))))) | skip)
          | (intro β)
          | (rename ∀ st, Tri _ _ _ st _ → _ => hK; apply hK; clear hK))
        exact ⟨m - 1, by omega, b4, b6, b11, b10, j + 1, by omega, ⟨rfl, by simp [upd, s2], by simp [upd, s4], by simp [upd, x4], by simp [upd, s6], by simp [upd, x6], by simp [upd, s11], by rw [hnx]; simp [upd, svL, m1, (show ¬ x.least = 0 by simpa using m2), m3]⟩, by simp [upd, s10], by simp [upd, x10], by simp [upd]⟩
      · repeat (first
          | (refine Tri.seq fun K hK => ?_)
          | (refine Tri.region ?_; simp [upd, hn, s2, s4, x4, s6, x6, s11, x11, s10, x10, s12, w1, w3, w4, w5, hwj, hcj, hq, w6, hlat, m1, m2, m3])
          | (refine Tri.draw (by kernel_rfl) (by decide +kernel) ?_; simp [upd, hn, s2, s4, x4, s6, x6, s11, x11, s10, x10, s12, w1, w3, w4, w5, hwj, hcj, hq, w6, hlat, m1, m2, m3])
          | (refine Tri.draw2 [] [0, 1, 2, 3, 4, 5, 6, 7, 8] [] [] (by kernel_rfl) (by kernel_rfl) (by decide) (by rfl) (by decide +kernel) ?_; simp [upd, hn, s2, s4, x4, s6, x6, s11, x11, s10, x10, s12, w1, w3, w4, w5, hwj, hcj, hq, w6, hlat, m1, m2, m3])
          | (refine Tri.cond_true ?_ ?_; (focus simp [upd, hn, s2, s4, x4, s6, x6, s11, x11, s10, x10, s12, w1, w3, w4, w5, hwj, hcj, hq, w6, hlat, m1, m2, m3]; done))
          | (refine Tri.cond_false ?_ ?_; (focus simp [upd, hn, s2, s4, x4, s6, x6, s11, x11, s10, x10, s12, w1, w3, w4, w5, hwj, hcj, hq, w6, hlat, m1, m2, m3]; done))
          | (refine Tri.skip ?_; simp only [thenS, blockS])
          | (refine Tri.block_seq ?_)
          | (refine Tri.block_region ?_)
          | (refine Tri.block_cond ?_)
          | ((with_reducible refine CallK.pure (hrel) (Wks.refl _) ?_); simp [upd, hn, s2, s4, x4, s6, x6, s11, x11, s10, x10, s12, w1, w3, w4, w5, hwj, hcj, hq, w6, hlat, m1, m2, m3])
          | ((with_reducible refine CallK.pure (hd1) (Wks.refl _) ?_); simp [upd, hn, s2, s4, x4, s6, x6, s11, x11, s10, x10, s12, w1, w3, w4, w5, hwj, hcj, hq, w6, hlat, m1, m2, m3])
          | (refine Tri.exit ?_; simp [upd, hn, s2, s4, x4, s6, x6, s11, x11, s10, x10, s12, w1, w3, w4, w5, hwj, hcj, hq, w6, hlat, m1, m2, m3]; first | (rename ∀ st, Tri _ _ _ st _ → _ => hK; first | (apply hK; clear hK) | (clear hK; rename ∀ st, Tri _ _ _ st _ → _ => hK; first | (apply hK; clear hK) | (clear hK; rename ∀ st, Tri _ _ _ st _ → _ => hK; first | (apply hK; clear hK) | (clear hK; rename ∀ st, Tri _ _ _ st _ → _ => hK; first | (apply hK; clear hK) | (clear hK; rename ∀ st, Tri _ _ _ st _ → _ => hK; first | (apply hK; clear hK) | (clear hK; rename ∀ st, Tri _ _ _ st _ → _ => hK; apply hK; clear hK)))))) | skip)
          | (intro β)
          | (rename ∀ st, Tri _ _ _ st _ → _ => hK; apply hK; clear hK))
        exact ⟨m - 1, by omega, b4, b6, b11, b10, j + 1, by omega, ⟨rfl, by simp [upd, s2], by simp [upd, s4], by simp [upd, x4], by simp [upd, s6], by simp [upd, x6], by simp [upd, s11], by rw [hnx]; simp [upd, svL, m1, (show ¬ x.least = 0 by simpa using m2), m3]⟩, by simp [upd, s10], by simp [upd, x10], by simp [upd]⟩
    · repeat (first
        | (refine Tri.seq fun K hK => ?_)
        | (refine Tri.region ?_; simp [upd, hn, s2, s4, x4, s6, x6, s11, x11, s10, x10, s12, w1, w3, w4, w5, hwj, hcj, hq, w6, hlat, m1, m2])
        | (refine Tri.draw (by kernel_rfl) (by decide +kernel) ?_; simp [upd, hn, s2, s4, x4, s6, x6, s11, x11, s10, x10, s12, w1, w3, w4, w5, hwj, hcj, hq, w6, hlat, m1, m2])
        | (refine Tri.draw2 [] [0, 1, 2, 3, 4, 5, 6, 7, 8] [] [] (by kernel_rfl) (by kernel_rfl) (by decide) (by rfl) (by decide +kernel) ?_; simp [upd, hn, s2, s4, x4, s6, x6, s11, x11, s10, x10, s12, w1, w3, w4, w5, hwj, hcj, hq, w6, hlat, m1, m2])
        | (refine Tri.cond_true ?_ ?_; (focus simp [upd, hn, s2, s4, x4, s6, x6, s11, x11, s10, x10, s12, w1, w3, w4, w5, hwj, hcj, hq, w6, hlat, m1, m2]; done))
        | (refine Tri.cond_false ?_ ?_; (focus simp [upd, hn, s2, s4, x4, s6, x6, s11, x11, s10, x10, s12, w1, w3, w4, w5, hwj, hcj, hq, w6, hlat, m1, m2]; done))
        | (refine Tri.skip ?_; simp only [thenS, blockS])
        | (refine Tri.block_seq ?_)
        | (refine Tri.block_region ?_)
        | (refine Tri.block_cond ?_)
        | ((with_reducible refine CallK.pure (hrel) (Wks.refl _) ?_); simp [upd, hn, s2, s4, x4, s6, x6, s11, x11, s10, x10, s12, w1, w3, w4, w5, hwj, hcj, hq, w6, hlat, m1, m2])
        | ((with_reducible refine CallK.pure (hd1) (Wks.refl _) ?_); simp [upd, hn, s2, s4, x4, s6, x6, s11, x11, s10, x10, s12, w1, w3, w4, w5, hwj, hcj, hq, w6, hlat, m1, m2])
        | (refine Tri.exit ?_; simp [upd, hn, s2, s4, x4, s6, x6, s11, x11, s10, x10, s12, w1, w3, w4, w5, hwj, hcj, hq, w6, hlat, m1, m2]; first | (rename ∀ st, Tri _ _ _ st _ → _ => hK; first | (apply hK; clear hK) | (clear hK; rename ∀ st, Tri _ _ _ st _ → _ => hK; first | (apply hK; clear hK) | (clear hK; rename ∀ st, Tri _ _ _ st _ → _ => hK; first | (apply hK; clear hK) | (clear hK; rename ∀ st, Tri _ _ _ st _ → _ => hK; first | (apply hK; clear hK) | (clear hK; rename ∀ st, Tri _ _ _ st _ → _ => hK; first | (apply hK; clear hK) | (clear hK; rename ∀ st, Tri _ _ _ st _ → _ => hK; apply hK; clear hK)))))) | skip)
        | (intro β)
        | (rename ∀ st, Tri _ _ _ st _ → _ => hK; apply hK; clear hK))
      exact ⟨m - 1, by omega, b4, b6, b11, b10, j + 1, by omega, ⟨rfl, by simp [upd, s2], by simp [upd, s4], by simp [upd, x4], by simp [upd, s6], by simp [upd, x6], by simp [upd, s11], by rw [hnx]; simp [upd, svL, m1, (show x.least = 0 by simpa using m2)]⟩, by simp [upd, s10], by simp [upd, x10], by simp [upd]⟩
end Go.Proofs.Ytngbpmiikpjiaaa
end
section
open Go Go.Vm
namespace Go.Proofs.Ytngbpmiikpjiaaa
set_option maxRecDepth 100000
set_option maxHeartbeats 8000000
set_option linter.unusedSimpArgs false
attribute [-simp] isObj C.isO
attribute [local irreducible] Tri Does DoesB DoesR Rounds
theorem strayN_len (l : List Flo) (r : Rec) (h : r.atts.length ≤ 150) : (strayN l r).length ≤ 1073741824 := by
  unfold strayN strays
  split
  · exact Nat.le_trans (List.length_filter_le ..) (by omega)
  · simp
theorem monitorServes_does (l : List Flo) (nl : Bool) (r : Rec) (id : Int) (hn : nl = true → l = []) (ha : r.an = true → r.atts = []) (hd : r.dn = true → r.dels = []) : Does Try.prog 5 [.c (.sl nl 6 none (l.map floC)), .agg (recC r), .c (.int .i64 id)] (.c (.bool true)) := by
  refine Does.of_body Try.func5 rfl (by kernel_rfl) rfl rfl (by simp) ?_
  intro E
  have h0 := awake_does
  have h1 := few56_does l nl r
  have h4 := serve_does l nl r id
  have h5 := serveR_does l nl r id
  have h6 := stray_does l nl r
  have h7 := strayR_does l nl r
  simp only [recC, svcC] at h1 h4 h5 h6 h7 ⊢
  cases g : (decide (l.length ≤ 20) && (decide (r.atts.length ≤ 150) && decide (r.dels.length ≤ 100)))
  · rw [g] at h1
    repeat (first
      | (refine Tri.seq fun K hK => ?_)
      | (refine Tri.region ?_; simp [upd])
      | (refine Tri.draw (by kernel_rfl) (by decide +kernel) ?_; simp [upd])
      | (refine Tri.cond_true ?_ ?_; (focus simp [upd]; done))
      | (refine Tri.cond_false ?_ ?_; (focus simp [upd]; done))
      | (refine Tri.skip ?_; simp only [thenS, blockS])
      | (refine Tri.block_seq ?_)
      | (refine Tri.block_region ?_)
      | (refine Tri.block_cond ?_)
      | ((with_reducible refine CallK.pure (h0) (Wks.refl _) ?_); simp [upd])
      | ((with_reducible refine CallK.pure (h1) (Wks.refl _) ?_); simp [upd])
      | (refine Tri.exit ?_; simp [upd]; first | (rename ∀ st, Tri _ _ _ st _ → _ => hK; first | (apply hK; clear hK) | (clear hK; rename ∀ st, Tri _ _ _ st _ → _ => hK; first | (apply hK; clear hK) | (clear hK; rename ∀ st, Tri _ _ _ st _ → _ => hK; first | (apply hK; clear hK) | (clear hK; rename ∀ st, Tri _ _ _ st _ → _ => hK; first | (apply hK; clear hK) | (clear hK; rename ∀ st, Tri _ _ _ st _ → _ => hK; first | (apply hK; clear hK) | (clear hK; rename ∀ st, Tri _ _ _ st _ → _ => hK; apply hK; clear hK)))))) | skip)
      | (intro β)
      | (rename ∀ st, Tri _ _ _ st _ → _ => hK; apply hK; clear hK))
    refine Tri.ret ⟨_, rfl, ?_⟩
    simp [upd]
    exact Wk.refl _
  · obtain ⟨b1, b2, b3⟩ := few56 g
    rw [g] at h1
    have h2 := cloneF_does l nl hn (by omega)
    have h3 := cp_does r ⟨ha, hd, by omega, by omega⟩
    have h8 := equalA_does (strayN l r) (strayN l r).isEmpty (strayN l r).isEmpty (strayN_len l r b2)
    simp only [recC] at h3
    generalize serveN l r id = x at *
    generalize serveE l r id = f at *
    generalize strayN l r = y at *
    generalize lateE l r = e at *
    repeat (first
      | (refine Tri.seq fun K hK => ?_)
      | (refine Tri.region ?_; simp [upd])
      | (refine Tri.draw (by kernel_rfl) (by decide +kernel) ?_; simp [upd])
      | (refine Tri.draw2 [7] [0, 1, 2, 3, 4, 5, 6, 7, 8] [9, 10, 11] [] (by kernel_rfl) (by kernel_rfl) (by decide) (by rfl) (by decide +kernel) ?_; simp [upd])
      | (refine Tri.draw2 [] [0, 1, 2, 3, 4, 5, 6, 7, 8, 9] [] [] (by kernel_rfl) (by kernel_rfl) (by decide) (by rfl) (by decide +kernel) ?_; simp [upd])
      | (refine Tri.cond_true ?_ ?_; (focus simp [upd]; done))
      | (refine Tri.cond_false ?_ ?_; (focus simp [upd]; done))
      | (refine Tri.skip ?_; simp only [thenS, blockS])
      | (refine Tri.block_seq ?_)
      | (refine Tri.block_region ?_)
      | (refine Tri.block_cond ?_)
      | ((with_reducible refine CallK.pure (h0) (Wks.refl _) ?_); simp [upd])
      | ((with_reducible refine CallK.pure (h1) (Wks.refl _) ?_); simp [upd])
      | ((with_reducible refine CallK.pure (h2) (Wks.refl _) ?_); simp [upd])
      | ((with_reducible refine CallK.pure (h3) (Wks.refl _) ?_); simp [upd])
      | ((with_reducible refine CallK.pure (h4) (Wks.refl _) ?_); simp [upd])
      | ((with_reducible refine CallK.pure (h5) (Wks.refl _) ?_); simp [upd])
      | ((with_reducible refine CallK.pure (h6) (Wks.refl _) ?_); simp [upd])
      | ((with_reducible refine CallK.pure (h7) (Wks.refl _) ?_); simp [upd])
      | ((with_reducible refine CallK.pure (h8) (Wks.refl _) ?_); simp [upd])
      | (refine Tri.exit ?_; simp [upd]; first | (rename ∀ st, Tri _ _ _ st _ → _ => hK; first | (apply hK; clear hK) | (clear hK; rename ∀ st, Tri _ _ _ st _ → _ => hK; first | (apply hK; clear hK) | (clear hK; rename ∀ st, Tri _ _ _ st _ → _ => hK; first | (apply hK; clear hK) | (clear hK; rename ∀ st, Tri _ _ _ st _ → _ => hK; first | (apply hK; clear hK) | (clear hK; rename ∀ st, Tri _ _ _ st _ → _ => hK; first | (apply hK; clear hK) | (clear hK; rename ∀ st, Tri _ _ _ st _ → _ => hK; apply hK; clear hK)))))) | skip)
      | (intro β)
      | (rename ∀ st, Tri _ _ _ st _ → _ => hK; apply hK; clear hK))
    refine Tri.ret ⟨_, rfl, ?_⟩
    simp [upd]
    exact Wk.refl _
end Go.Proofs.Ytngbpmiikpjiaaa
end
section
open Go Go.Vm
open Go.ChangeShapes Go.WideShapes Go.ChangeAt Go.RowKit
namespace Go.Proofs.Ytngbpmiikpjiaaa.monitorServes
set_option linter.unusedVariables false
theorem own : ownKnob Try.prog.godebug = none := by kernel_rfl
set_option maxRecDepth 100000 in
theorem lifted (os : Os) (started : os.Started) (H : Type) (enc : TypeId × Value → H) :
    ReturnsInHanded {} Try.checked os 5 .any (Rows.monitorServesSpec.pre6 enc Try.prog Try.f5 Rows.monitorServesRow.domain false) (Rows.monitorServesSpec.post enc Try.prog Try.f5 false true false false) := by
  refine returnsInHanded_of_change (C := Try.checked) own started (by kernel_rfl) Try.func5
    (ChangeSpec.witness6 (enc := enc) (C := Try.checked) false ⟨#[], #[.slice none 0 0, .agg #[.int .i64 0, .slice none 0 0, .slice none 0 0], .int .i64 0], []⟩ 8 (by kernel_rfl) (by kernel_rfl) (by kernel_rfl) (by kernel_rfl)) ?_
  intro W base args ds gs before hval0 hW hcnd _
  have hval : ∀ (j : Nat) t v, Try.f5.params[j]? = some t → args[j]? = some v → Value.okWide Try.prog W .any base t v := hval0
  have hW' := hW
  obtain ⟨p, q, hA0, hV, rfl, hfz, hnd⟩ := hW
  have hA : DataW.TrodAll enc Try.prog W 0 (fun _ => true) true Try.f5.params.toList args.toList ds p := hA0
  rw [Try.params5] at hA hval
  obtain ⟨v0, vs0, d0, ds0, p0, q0, hargs0, rfl, rfl, h0, r0⟩ := trodAll_cons hA
  obtain ⟨v1, vs1, d1, ds1, p1, q1, hargs1, rfl, rfl, h1, r1⟩ := trodAll_cons r0
  subst hargs1
  obtain ⟨v2, vs2, d2, ds2, p2, q2, hargs2, rfl, rfl, h2, r2⟩ := trodAll_cons r1
  subst hargs2
  obtain ⟨rfl, rfl, rfl⟩ := trodAll_nil r2
  obtain rfl : args = #[v0, v1, v2] := by cases args; simp_all
  obtain ⟨rfl, rfl⟩ := trodVars_none hV
  obtain ⟨ln, l, hla, hll, hv0⟩ := open_flows (hval 0 22 v0 rfl rfl) h0
  obtain ⟨r, hra, hrd, hrl, hrm, hv1⟩ := open_rec (hval 1 28 v1 rfl rfl) h1
  obtain ⟨id, rfl, rfl, rfl, w2⟩ := open_int (k := .i64) (by kernel_rfl) (hval 2 3 v2 rfl rfl) h2
  have hid : -9223372036854775808 ≤ id ∧ id < 9223372036854775808 := by
    have := w2
    simp [Lit.wf, IntKind.min, IntKind.max, IntKind.signed, IntKind.bits] at this
    omega
  clear hA0 hval0
  simp only [List.append_nil] at hW'
  have hlt := hW'.lt
  have hD := (monitorServes_does l ln r id hla hra hrd).2 (fun b _ => b < W.heap.size) W [v0, v1, .int .i64 id] ⟨rfl, fun k hk => match k, hk with
    | 0, _ => hv0
    | 1, _ => hv1
    | 2, _ => .c (.int _ _)⟩ (fun b _ h => h)
  refine hD.mono fun e W' ⟨u, F', he, hu, hl⟩ => ?_
  subst he
  have hb : Below W.heap.size W W' := ⟨hl.os, hl.tape, hl.output, hl.size, hl.block⟩
  have hu' := hu.inv
  cases hu'
  have hsame0 : ∀ p ∈ p0, W.sameAt W' p := fun p hp => hb.same (hlt p (by simp [hp]))
  have hsame1 : ∀ p ∈ p1, W.sameAt W' p := fun p hp => hb.same (hlt p (by simp [hp]))
  exact ⟨_, rfl, post_below (pa := (p0 ++ (p1 ++ ([] ++ [])))) (pv := []) hW' hb (by simp) (fun _ _ _ => (trodAll_cons_mk (shut_bool Try.underlying4 _) trodAll_mk0))
    (fun sp hsp => (trodAll_cons_mk (WideElems.Trod_stays (by kernel_rfl) (by kernel_rfl) (by decide +kernel) h0 hsame0 fun p hp => hsp p (by simp [hp])) (trodAll_cons_mk (WideElems.Trod_stays (by kernel_rfl) (by kernel_rfl) (by decide +kernel) h1 hsame1 fun p hp => hsp p (by simp [hp])) (trodAll_cons_mk (shut_int (by kernel_rfl) w2) trodAll_mk0))))
    (fun _ _ => rfl) (ok_one (by kernel_rfl) rfl (okWide_bool_mk Try.underlying4 _))⟩
theorem over : Rows.monitorServesRow.holds Try.pinned (OpenSpec.ofChange Rows.monitorServesSpec) :=
  OpenClaim.holds_of_wide 5 Try.f5 rfl rfl rfl rfl rfl rfl rfl ⟨rfl, rfl, rfl, rfl, rfl⟩ rfl rfl rfl rfl rfl (by kernel_rfl) Try.func5 (by kernel_rfl)
    (of_decide_eq_true (by kernel_rfl)) (by unfold Func.isWrapper; first | (rw [if_pos (by decide +kernel)]; kernel_rfl) | (rw [if_neg (by decide +kernel)]; exact ⟨rfl, rfl⟩))
    (fun os started H enc _ => lifted os started H enc)
theorem proved : Rows.MonitorServesSaid :=
  over
end Go.Proofs.Ytngbpmiikpjiaaa.monitorServes
end
