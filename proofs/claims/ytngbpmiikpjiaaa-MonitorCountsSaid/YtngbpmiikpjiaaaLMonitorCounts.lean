/- A flow is served in time exactly if Late has none of its frames; latencies of others are from 1 to the deadline: for any flows and record, at most 20 flows, 150 attempts and 100 deliveries. -/
import Derived.Test.YtngbpmiikpjiaaaB6
import Derived.Test.YtngbpmiikpjiaaaRows
import Derived.ShutString
set_option linter.all false
section
open Go Go.Vm
namespace Go.Proofs.Ytngbpmiikpjiaaa
set_option maxRecDepth 100000
set_option maxHeartbeats 8000000
set_option linter.unusedSimpArgs false
attribute [-simp] isObj C.isO
attribute [local irreducible] Tri Does DoesB DoesR Rounds
theorem lateN_len (l : List Flo) (r : Rec) : (lateN l r).length ≤ 1073741824 := by
  unfold lateN
  split
  · rename_i hg
    obtain ⟨hl16, hfa, -⟩ := flows_ok hg.1
    obtain ⟨hs0, hs1⟩ := check_slots hg.2
    have := flatMap_le (fun f => lateF f r) 4097 l (fun f hf => by
      obtain ⟨i, hi, rfl⟩ := List.getElem_of_mem hf
      exact lateF_len _ r (hfa i hi) hs0 hs1)
    unfold lates
    omega
  · simp
theorem few56 {l : List Flo} {r : Rec} (h : (decide (l.length ≤ 20) && (decide (r.atts.length ≤ 150) && decide (r.dels.length ≤ 100))) = true) : l.length ≤ 20 ∧ r.atts.length ≤ 150 ∧ r.dels.length ≤ 100 := by
  simp only [Bool.and_eq_true, decide_eq_true_eq] at h
  exact h
theorem monitorLate_does (l : List Flo) (nl : Bool) (r : Rec) (hn : nl = true → l = []) (ha : r.an = true → r.atts = []) (hd : r.dn = true → r.dels = []) : Does Try.prog 3 [.c (.sl nl 6 none (l.map floC)), .agg (recC r)] (.c (.bool true)) := by
  refine Does.of_body Try.func3 rfl (by kernel_rfl) rfl rfl (by simp) ?_
  intro E
  have h0 := awake_does
  have h1 := few56_does l nl r
  have h4 := late_does l nl r
  have h5 := lateR_does l nl r
  have h6 := sameLate_does (lateN l r) (lateN l r).isEmpty (lateN l r).isEmpty (lateN_len l r)
  simp only [recC] at h1 h4 h5 ⊢
  cases g : (decide (l.length ≤ 20) && (decide (r.atts.length ≤ 150) && decide (r.dels.length ≤ 100)))
  · rw [g] at h1
    repeat (first
      | (refine Tri.seq fun K hK => ?_)
      | (refine Tri.region ?_; simp [upd])
      | (refine Tri.draw (by kernel_rfl) (by decide +kernel) ?_; simp [upd])
      | (refine Tri.cond_true ?_ ?_; (focus simp [upd]; done))
      | (refine Tri.cond_false ?_ ?_; (focus simp [upd]; done))
      | (refine Tri.skip ?_; simp only [thenS, blockS])
      | (refine Tri.block_seq ?_)
      | (refine Tri.block_region ?_)
      | (refine Tri.block_cond ?_)
      | ((with_reducible refine CallK.pure (h0) (Wks.refl _) ?_); simp [upd])
      | ((with_reducible refine CallK.pure (h1) (Wks.refl _) ?_); simp [upd])
      | (refine Tri.exit ?_; simp [upd]; first | (rename ∀ st, Tri _ _ _ st _ → _ => hK; first | (apply hK; clear hK) | (clear hK; rename ∀ st, Tri _ _ _ st _ → _ => hK; first | (apply hK; clear hK) | (clear hK; rename ∀ st, Tri _ _ _ st _ → _ => hK; first | (apply hK; clear hK) | (clear hK; rename ∀ st, Tri _ _ _ st _ → _ => hK; first | (apply hK; clear hK) | (clear hK; rename ∀ st, Tri _ _ _ st _ → _ => hK; first | (apply hK; clear hK) | (clear hK; rename ∀ st, Tri _ _ _ st _ → _ => hK; apply hK; clear hK)))))) | skip)
      | (intro β)
      | (rename ∀ st, Tri _ _ _ st _ → _ => hK; apply hK; clear hK))
    refine Tri.ret ⟨_, rfl, ?_⟩
    simp [upd]
    exact Wk.refl _
  · obtain ⟨b1, b2, b3⟩ := few56 g
    rw [g] at h1
    have h2 := cloneF_does l nl hn (by omega)
    have h3 := cp_does r ⟨ha, hd, by omega, by omega⟩
    simp only [recC] at h3
    generalize lateN l r = y at *
    generalize lateE l r = e at *
    repeat (first
      | (refine Tri.seq fun K hK => ?_)
      | (refine Tri.region ?_; simp [upd])
      | (refine Tri.draw (by kernel_rfl) (by decide +kernel) ?_; simp [upd])
      | (refine Tri.draw2 [] [0, 1, 2, 3, 4, 5, 6, 7, 8, 9] [] [] (by kernel_rfl) (by kernel_rfl) (by decide) (by rfl) (by decide +kernel) ?_; simp [upd])
      | (refine Tri.cond_true ?_ ?_; (focus simp [upd]; done))
      | (refine Tri.cond_false ?_ ?_; (focus simp [upd]; done))
      | (refine Tri.skip ?_; simp only [thenS, blockS])
      | (refine Tri.block_seq ?_)
      | (refine Tri.block_region ?_)
      | (refine Tri.block_cond ?_)
      | ((with_reducible refine CallK.pure (h0) (Wks.refl _) ?_); simp [upd])
      | ((with_reducible refine CallK.pure (h1) (Wks.refl _) ?_); simp [upd])
      | ((with_reducible refine CallK.pure (h2) (Wks.refl _) ?_); simp [upd])
      | ((with_reducible refine CallK.pure (h3) (Wks.refl _) ?_); simp [upd])
      | ((with_reducible refine CallK.pure (h4) (Wks.refl _) ?_); simp [upd])
      | ((with_reducible refine CallK.pure (h5) (Wks.refl _) ?_); simp [upd])
      | ((with_reducible refine CallK.pure (h6) (Wks.refl _) ?_); simp [upd])
      | (refine Tri.exit ?_; simp [upd]; first | (rename ∀ st, Tri _ _ _ st _ → _ => hK; first | (apply hK; clear hK) | (clear hK; rename ∀ st, Tri _ _ _ st _ → _ => hK; first | (apply hK; clear hK) | (clear hK; rename ∀ st, Tri _ _ _ st _ → _ => hK; first | (apply hK; clear hK) | (clear hK; rename ∀ st, Tri _ _ _ st _ → _ => hK; first | (apply hK; clear hK) | (clear hK; rename ∀ st, Tri _ _ _ st _ → _ => hK; first | (apply hK; clear hK) | (clear hK; rename ∀ st, Tri _ _ _ st _ → _ => hK; apply hK; clear hK)))))) | skip)
      | (intro β)
      | (rename ∀ st, Tri _ _ _ st _ → _ => hK; apply hK; clear hK))
    refine Tri.ret ⟨_, rfl, ?_⟩
    simp [upd]
    exact Wk.refl _
end Go.Proofs.Ytngbpmiikpjiaaa
end
section
open Go Go.Vm
namespace Go.Proofs.Ytngbpmiikpjiaaa
/-- What holds of a service after k frames. -/
structure SvOk (f : Flo) (late k : Int) (x : Svc) : Prop where
  la : x.late = late
  l0 : 0 ≤ x.least
  lm : x.least ≤ x.most
  md : x.most ≤ f.dea
  mz : 0 < x.most ↔ late < k
  ll : 0 < x.least ↔ 0 < x.most
theorem svok_step {f : Flo} {d : List Del} {k : Nat} {x : Svc} {late : Int} (h : SvOk f late k x) (hl : late ≤ k) (hd : 1 ≤ f.dea) : SvOk f (late + (late1 f d k).length) (k + 1 : Nat) (svF f d x k) := by
  obtain ⟨la, l0, lm, md, mz, ll⟩ := h
  have hin := arrI_in (f := f) (k := k) (l := slotsOf f.id k d)
  unfold svF late1
  cases hb : (arrI f k (slotsOf f.id k d)).2
  · rw [if_neg (by simp), if_neg (by simp)]
    exact ⟨by simp [la], l0, lm, md, by simp; omega, ll⟩
  · have hin := hin hb
    rw [if_pos rfl, if_pos rfl]
    unfold relI at hin
    generalize hx : (arrI f k (slotsOf f.id k d)).1 - f.pha - k * f.per + 1 = n
    have h1 : 1 ≤ n := by omega
    have h2 : n ≤ f.dea := by omega
    clear hin hx
    unfold svL
    have e0 : (([] : List Lat).length : Int) = 0 := rfl
    by_cases q1 : x.most < n <;> by_cases q2 : x.least = 0 <;> by_cases q3 : n < x.least <;> simp only [q1, q2, q3, if_true, if_false]
    all_goals (refine ⟨by simp [la], ?_, ?_, ?_, ?_, ?_⟩ <;> simp only [e0] <;> omega)
theorem svok_all (f : Flo) (d : List Del) (x : Svc) (hx : x.late = 0 ∧ x.least = 0 ∧ x.most = 0) (hd : 1 ≤ f.dea) : ∀ k : Nat, SvOk f (((List.range k).flatMap (late1 f d)).length : Int) k ((List.range k).foldl (svF f d) x)
  | 0 => by
    obtain ⟨h1, h2, h3⟩ := hx
    exact ⟨by simp [h1], by simp [h2], by simp [h2, h3], by simp [h3]; omega, by simp [h3], by simp [h2, h3]⟩
  | k + 1 => by
    have ih := svok_all f d x hx hd k
    have hl := flatMap_le (late1 f d) 1 (List.range k) (fun x _ => late1_len f d x)
    rw [List.length_range] at hl
    have := svok_step (d := d) (k := k) ih (by omega) hd
    rw [range_succ_foldl]
    have e : (((List.range (k + 1)).flatMap (late1 f d)).length : Int) = (((List.range k).flatMap (late1 f d)).length : Int) + ((late1 f d k).length : Int) := by
      rw [List.range_succ, List.flatMap_append, List.length_append]; simp
    rw [e]
    exact this
theorem svA_keep (id : Int) : ∀ (l : List Att) (x : Svc), (l.foldl (svA id) x).frames = x.frames ∧ (l.foldl (svA id) x).late = x.late ∧ (l.foldl (svA id) x).least = x.least ∧ (l.foldl (svA id) x).most = x.most ∧ (x.lost ≤ x.att → (l.foldl (svA id) x).lost ≤ (l.foldl (svA id) x).att)
  | [], x => by simp
  | a :: l, x => by
    rw [List.foldl_cons]
    obtain ⟨h1, h2, h3, h4, h5⟩ := svA_keep id l (svA id x a)
    have e : (svA id x a).frames = x.frames ∧ (svA id x a).late = x.late ∧ (svA id x a).least = x.least ∧ (svA id x a).most = x.most ∧ (x.lost ≤ x.att → (svA id x a).lost ≤ (svA id x a).att) := by
      unfold svA
      split
      · refine ⟨rfl, rfl, rfl, rfl, fun h => ?_⟩
        simp only
        split <;> omega
      · exact ⟨rfl, rfl, rfl, rfl, fun h => h⟩
    obtain ⟨e1, e2, e3, e4, e5⟩ := e
    exact ⟨h1.trans e1, h2.trans e2, h3.trans e3, h4.trans e4, fun h => h5 (e5 h)⟩
/-- What MonitorCounts asks of a flow. -/
theorem serve2_ok (f : Flo) (r : Rec) (hf : fault 32 f = 0) (h0 : 0 ≤ r.slots) (h1 : r.slots ≤ 4096) :
    (serve2 f.id f r).late = (lateF f r).length ∧ (serve2 f.id f r).late ≤ (serve2 f.id f r).frames ∧ (serve2 f.id f r).lost ≤ (serve2 f.id f r).att ∧ (serve2 f.id f r).least ≤ (serve2 f.id f r).most ∧
    (serve2 f.id f r).most ≤ f.dea ∧ (0 < (serve2 f.id f r).most ↔ (serve2 f.id f r).late < (serve2 f.id f r).frames) ∧ (0 < (serve2 f.id f r).least ↔ 0 < (serve2 f.id f r).most) := by
  have hp := fault_ok hf
  have hcb := comp_b hf h0 h1
  obtain ⟨k1, k2, k3, k4, k5⟩ := svA_keep f.id r.atts (serve1 f r)
  change (serve2 f.id f r).frames = _ at k1
  change (serve2 f.id f r).late = _ at k2
  change (serve2 f.id f r).least = _ at k3
  change (serve2 f.id f r).most = _ at k4
  change _ → (serve2 f.id f r).lost ≤ (serve2 f.id f r).att at k5
  have hs := svok_all f r.dels { svZ with frames := compI f r.slots } ⟨rfl, rfl, rfl⟩ hp.d1 (compI f r.slots).toNat
  change SvOk f ((lateF f r).length : Int) _ (serve1 f r) at hs
  obtain ⟨q1, q2, q3, -, -⟩ := sv_fr f r.dels { svZ with frames := compI f r.slots } (compI f r.slots).toNat
  change (serve1 f r).frames = compI f r.slots at q1
  change (serve1 f r).att = 0 at q2
  change (serve1 f r).lost = 0 at q3
  have hl := lateF_len f r hf h0 h1
  have hl2 := flatMap_le (late1 f r.dels) 1 (List.range (compI f r.slots).toNat) (fun x _ => late1_len f r.dels x)
  change (lateF f r).length ≤ _ at hl2
  rw [List.length_range] at hl2
  obtain ⟨la, l0, lm, md, mz, ll⟩ := hs
  rw [k1, k2, k3, k4]
  refine ⟨la, by omega, k5 (by omega), lm, md, ?_, ll⟩
  rw [mz, la, q1]
  omega
/-- How many late frames a flow has. -/
def cntF (id : Int) (l : List Lat) : Nat := (l.filter fun x => x.f == id).length
theorem late1_f (f : Flo) (d : List Del) (k : Nat) : ∀ x ∈ late1 f d k, x.f = f.id := by
  unfold late1
  split
  · intro x hx; cases hx
  · intro x hx
    rw [List.mem_singleton] at hx
    rw [hx]
theorem lateF_f (f : Flo) (r : Rec) : ∀ x ∈ lateF f r, x.f = f.id := by
  intro x hx
  obtain ⟨k, _, hk⟩ := List.mem_flatMap.1 hx
  exact late1_f f r.dels k x hk
theorem cntF_lateF (id : Int) (f : Flo) (r : Rec) : cntF id (lateF f r) = if f.id = id then (lateF f r).length else 0 := by
  unfold cntF
  split
  · rename_i h
    rw [List.filter_eq_self.2 fun x hx => by simpa [h] using lateF_f f r x hx]
  · rename_i h
    rw [List.filter_eq_nil_iff.2 fun x hx => by simp [lateF_f f r x hx, h]]
    rfl
theorem cntF_lates (r : Rec) (id : Int) : ∀ (l : List Flo) (n : Nat), (∀ f ∈ l, f.id ≠ id) → cntF id (lates l r) = 0
  | [], _, _ => rfl
  | f :: l, n, h => by
    have h1 := cntF_lates r id l n fun g hg => h g (List.mem_cons_of_mem _ hg)
    have h2 := cntF_lateF id f r
    rw [if_neg (h f (List.mem_cons_self ..))] at h2
    unfold cntF lates at *
    rw [List.flatMap_cons, List.filter_append, List.length_append]
    omega
theorem cntF_at (r : Rec) (l : List Flo) (hd : ∀ i j (_ : i < l.length) (_ : j < l.length), i < j → l[i].id < l[j].id) (k : Nat) (hk : k < l.length) : cntF l[k].id (lates l r) = (lateF l[k] r).length := by
  have e : l = l.take k ++ l[k] :: l.drop (k + 1) := by
    rw [← List.drop_eq_getElem_cons hk, List.take_append_drop]
  have h1 := cntF_lates r l[k].id (l.take k) 0 fun f hf => by
    obtain ⟨i, hi, rfl⟩ := List.getElem_of_mem hf
    rw [List.length_take] at hi
    rw [List.getElem_take]
    have := hd i k (by omega) hk (by omega)
    omega
  have h2 := cntF_lates r l[k].id (l.drop (k + 1)) 0 fun f hf => by
    obtain ⟨i, hi, rfl⟩ := List.getElem_of_mem hf
    rw [List.length_drop] at hi
    rw [List.getElem_drop]
    have := hd k (k + 1 + i) hk (by omega) (by omega)
    omega
  have h3 := cntF_lateF l[k].id l[k] r
  rw [if_pos rfl] at h3
  generalize l[k] = f at *
  unfold cntF lates at *
  rw [e, List.flatMap_append, List.flatMap_cons, List.filter_append, List.filter_append, List.length_append, List.length_append]
  omega
theorem find_at (l : List Flo) (hd : ∀ i j (_ : i < l.length) (_ : j < l.length), i < j → l[i].id < l[j].id) (k : Nat) (hk : k < l.length) : l.find? (fun f => f.id == l[k].id) = some l[k] ∧ findI l[k].id l = (k : Int) := by
  rcases find_cases l l[k].id with ⟨h1, h2⟩ | ⟨i, hi, h1, h2⟩
  · have := List.find?_eq_none.1 h2 l[k] (List.getElem_mem hk)
    simp at this
  · have h3 := List.find?_some h2
    simp only [beq_iff_eq] at h3
    have : i = k := by
      rcases Nat.lt_trichotomy i k with h | h | h
      · have := hd i k hi hk h; omega
      · exact h
      · have := hd k i hk hi h; omega
    subst this
    exact ⟨h2, h1⟩
end Go.Proofs.Ytngbpmiikpjiaaa
end
section
open Go Go.Vm
namespace Go.Proofs.Ytngbpmiikpjiaaa
set_option maxRecDepth 100000
set_option maxHeartbeats 8000000
set_option linter.unusedSimpArgs false
attribute [-simp] isObj C.isO
attribute [local irreducible] Tri Does DoesB DoesR Rounds check fault flowsE arr slotsOf inB findI compI serveN serveE lateN lateE
theorem cntF_take (id : Int) (l : List Lat) (j : Nat) (hj : j < l.length) : cntF id (l.take (j + 1)) = cntF id (l.take j) + if l[j].f = id then 1 else 0 := by
  unfold cntF
  rw [List.take_succ_eq_append_getElem hj, List.filter_append, List.length_append]
  congr 1
  by_cases h : l[j].f = id <;> simp [h]
theorem cntF_le (id : Int) (l : List Lat) : cntF id l ≤ l.length := List.length_filter_le ..
structure QI (l : List Flo) (nl : Bool) (r : Rec) (y : List Lat) (ny : Bool) (st : St) (b3 : Nat) : Prop where
  hn : st.n = 121
  s0 : st.sl 0 = .c (.sl nl 6 none (l.map floC))
  s35 : st.sl 35 = .c (.sl nl 6 none (l.map floC))
  s3 : st.sl 3 = .c (.box 3 b3 0)
  x3 : st.bx 3 = some (b3, [.int .i64 r.slots, .sl r.an 8 none (r.atts.map attC), .sl r.dn 3 none (r.dels.map delC)])
  s5 : st.sl 5 = .c (.sl ny 3 none (y.map latC))
theorem QI.put {l : List Flo} {nl : Bool} {r : Rec} {y : List Lat} {ny : Bool} {st : St} {b3 : Nat} (h : QI l nl r y ny st b3) (t : Nat) (v : V) (ht : t ≠ 0 ∧ t ≠ 35 ∧ t ≠ 3 ∧ t ≠ 5) : QI l nl r y ny (st.put (some t) v) b3 := by
  obtain ⟨h1, h2, h3, h4⟩ := ht
  exact ⟨h.hn, by simpa [upd, h1.symm] using h.s0, by simpa [upd, h2.symm] using h.s35, by simpa [upd, h3.symm] using h.s3, h.x3, by simpa [upd, h4.symm] using h.s5⟩
def Q1 (l : List Flo) (nl : Bool) (r : Rec) (y : List Lat) (ny : Bool) (k : Nat) (st : St) : Prop := ∃ b3, QI l nl r y ny st b3
def Q2 (l : List Flo) (nl : Bool) (r : Rec) (y : List Lat) (ny : Bool) (k : Nat) (f : Flo) (x : Svc) (j : Nat) (st : St) : Prop := ∃ b3 b8 b9, QI l nl r y ny st b3 ∧ st.sl 8 = .c (.box 8 b8 0) ∧ st.bx 8 = some (b8, floC f) ∧ st.sl 9 = .c (.box 9 b9 0) ∧ st.bx 9 = some (b9, svcC x) ∧
  st.sl 10 = .c (.int .i64 0) ∧ st.sl 50 = .c (.sl ny 3 none (y.map latC)) ∧ st.sl 37 = .c (.int .i64 k) ∧ st.sl 36 = .c (.int .i64 l.length) ∧ st.sl 11 = .c (.int .i64 (cntF f.id (y.take j) : Nat))
theorem monitorCounts_does (l : List Flo) (nl : Bool) (r : Rec) (hnl : nl = true → l = []) (ha : r.an = true → r.atts = []) (hd : r.dn = true → r.dels = []) : Does Try.prog 6 [.c (.sl nl 6 none (l.map floC)), .agg (recC r)] (.c (.bool true)) := by
  refine Does.of_body Try.func6 rfl (by kernel_rfl) rfl rfl (by simp) ?_
  intro E
  have h0 := awake_does
  have h1 := few56_does l nl r
  have h4 := late_does l nl r
  have h5 := serve_does l nl r
  have hll := lateN_len l r
  simp only [recC, svcC] at h1 h4 h5 ⊢
  cases g : (decide (l.length ≤ 20) && (decide (r.atts.length ≤ 150) && decide (r.dels.length ≤ 100)))
  · rw [g] at h1
    repeat (first
      | (refine Tri.seq fun K hK => ?_)
      | (refine Tri.region ?_; simp [upd])
      | (refine Tri.draw (by kernel_rfl) (by decide +kernel) ?_; simp [upd])
      | (refine Tri.cond_true ?_ ?_; (focus simp [upd]; done))
      | (refine Tri.cond_false ?_ ?_; (focus simp [upd]; done))
      | (refine Tri.skip ?_; simp only [thenS, blockS])
      | (refine Tri.block_seq ?_)
      | (refine Tri.block_region ?_)
      | (refine Tri.block_cond ?_)
      | ((with_reducible refine CallK.pure (h0) (Wks.refl _) ?_); simp [upd])
      | ((with_reducible refine CallK.pure (h1) (Wks.refl _) ?_); simp [upd])
      | (refine Tri.exit ?_; simp [upd]; first | (rename ∀ st, Tri _ _ _ st _ → _ => hK; first | (apply hK; clear hK) | (clear hK; rename ∀ st, Tri _ _ _ st _ → _ => hK; first | (apply hK; clear hK) | (clear hK; rename ∀ st, Tri _ _ _ st _ → _ => hK; first | (apply hK; clear hK) | (clear hK; rename ∀ st, Tri _ _ _ st _ → _ => hK; first | (apply hK; clear hK) | (clear hK; rename ∀ st, Tri _ _ _ st _ → _ => hK; first | (apply hK; clear hK) | (clear hK; rename ∀ st, Tri _ _ _ st _ → _ => hK; apply hK; clear hK)))))) | skip)
      | (intro β)
      | (rename ∀ st, Tri _ _ _ st _ → _ => hK; apply hK; clear hK))
    refine Tri.ret ⟨_, rfl, ?_⟩
    simp [upd]
    exact Wk.refl _
  obtain ⟨b1, b2, b3⟩ := few56 g
  rw [g] at h1
  have h3 := cp_does r ⟨ha, hd, by omega, by omega⟩
  simp only [recC] at h3
  by_cases hg : flowsE l = 0 ∧ check r = 0
  case neg =>
    have e1 : lateN l r = [] := by unfold lateN; rw [if_neg hg]
    have e2 : lateE l r = 1 := by unfold lateE; rw [if_neg hg]
    rw [e1, e2] at h4
    repeat (first
      | (refine Tri.seq fun K hK => ?_)
      | (refine Tri.region ?_; simp [upd, bne])
      | (refine Tri.draw (by kernel_rfl) (by decide +kernel) ?_; simp [upd, bne])
      | (refine Tri.cond_true ?_ ?_; (focus simp [upd, bne]; done))
      | (refine Tri.cond_false ?_ ?_; (focus simp [upd, bne]; done))
      | (refine Tri.skip ?_; simp only [thenS, blockS])
      | (refine Tri.block_seq ?_)
      | (refine Tri.block_region ?_)
      | (refine Tri.block_cond ?_)
      | ((with_reducible refine CallK.pure (h0) (Wks.refl _) ?_); simp [upd, bne])
      | ((with_reducible refine CallK.pure (h1) (Wks.refl _) ?_); simp [upd, bne])
      | ((with_reducible refine CallK.pure (h3) (Wks.refl _) ?_); simp [upd, bne])
      | ((with_reducible refine CallK.pure (h4) (Wks.refl _) ?_); simp [upd, bne])
      | (refine Tri.exit ?_; simp [upd, bne]; first | (rename ∀ st, Tri _ _ _ st _ → _ => hK; first | (apply hK; clear hK) | (clear hK; rename ∀ st, Tri _ _ _ st _ → _ => hK; first | (apply hK; clear hK) | (clear hK; rename ∀ st, Tri _ _ _ st _ → _ => hK; first | (apply hK; clear hK) | (clear hK; rename ∀ st, Tri _ _ _ st _ → _ => hK; first | (apply hK; clear hK) | (clear hK; rename ∀ st, Tri _ _ _ st _ → _ => hK; first | (apply hK; clear hK) | (clear hK; rename ∀ st, Tri _ _ _ st _ → _ => hK; apply hK; clear hK)))))) | skip)
      | (intro β)
      | (rename ∀ st, Tri _ _ _ st _ → _ => hK; apply hK; clear hK))
    refine Tri.ret ⟨_, rfl, ?_⟩
    simp [upd]
    exact Wk.refl _
  have e1 : lateN l r = lates l r := by unfold lateN; rw [if_pos hg]
  have e2 : lateE l r = 0 := by unfold lateE; rw [if_pos hg]
  rw [e1] at hll
  rw [e1, e2] at h4
  obtain ⟨hl16, hfa, hord⟩ := flows_ok hg.1
  obtain ⟨hs0, hs1⟩ := check_slots hg.2
  have hcnt := fun k hk => cntF_at r l hord k hk
  have hsv : ∀ k (hk : k < l.length), Does Try.prog 23 [.c (.sl nl 6 none (l.map floC)), .agg [.int .i64 r.slots, .sl r.an 8 none (r.atts.map attC), .sl r.dn 3 none (r.dels.map delC)], .c (.int .i64 l[k].id)] (.tup [.agg (svcC (serve2 l[k].id l[k] r)), .c (.int .i64 0)]) := fun k hk => by
    have := h5 l[k].id
    obtain ⟨f1, f2⟩ := find_at l hord k hk
    have q1 : serveN l r l[k].id = serve2 l[k].id l[k] r := by unfold serveN; rw [if_pos hg, f1]
    have q2 : serveE l r l[k].id = 0 := by unfold serveE; rw [if_pos hg, f2, if_neg (by omega)]
    rw [q1, q2] at this
    exact this
  generalize hy : lates l r = y at *
  generalize y.isEmpty = ny at *
  repeat (first
    | (refine Tri.seq fun K hK => ?_)
    | (refine Tri.region ?_; simp [upd, bne])
    | (refine Tri.draw (by kernel_rfl) (by decide +kernel) ?_; simp [upd, bne])
    | (refine Tri.cond_true ?_ ?_; (focus simp [upd, bne]; done))
    | (refine Tri.cond_false ?_ ?_; (focus simp [upd, bne]; done))
    | (refine Tri.skip ?_; simp only [thenS, blockS])
    | (refine Tri.block_seq ?_)
    | (refine Tri.block_region ?_)
    | (refine Tri.block_cond ?_)
    | ((with_reducible refine CallK.pure (h0) (Wks.refl _) ?_); simp [upd, bne])
    | ((with_reducible refine CallK.pure (h1) (Wks.refl _) ?_); simp [upd, bne])
    | ((with_reducible refine CallK.pure (h3) (Wks.refl _) ?_); simp [upd, bne])
    | ((with_reducible refine CallK.pure (h4) (Wks.refl _) ?_); simp [upd, bne])
    | (refine Tri.exit ?_; simp [upd, bne]; first | (rename ∀ st, Tri _ _ _ st _ → _ => hK; first | (apply hK; clear hK) | (clear hK; rename ∀ st, Tri _ _ _ st _ → _ => hK; first | (apply hK; clear hK) | (clear hK; rename ∀ st, Tri _ _ _ st _ → _ => hK; first | (apply hK; clear hK) | (clear hK; rename ∀ st, Tri _ _ _ st _ → _ => hK; first | (apply hK; clear hK) | (clear hK; rename ∀ st, Tri _ _ _ st _ → _ => hK; first | (apply hK; clear hK) | (clear hK; rename ∀ st, Tri _ _ _ st _ → _ => hK; apply hK; clear hK)))))) | skip)
    | (intro β)
    | (rename ∀ st, Tri _ _ _ st _ → _ => hK; apply hK; clear hK))
  refine Tri.range 37 36 38 120 121 rfl rfl l.length (Q1 l nl r y ny) (by simp) (by omega) ?_ rfl (by simp [upd]) (by simp [upd]) ?_ ?_ ?_
  · rintro k st t v ht ⟨b3, h⟩
    exact ⟨b3, h.put t v (by omega)⟩
  · exact ⟨_, rfl, by simp [upd], by simp [upd], by simp [upd] <;> exact rfl, by simp [upd] <;> exact rfl, by simp [upd]⟩
  · rintro k st hk ⟨b3, ⟨-, s0, s35, s3, x3, s5⟩⟩ hn h37 h36
    have hs := hsv k hk
    have hok := serve2_ok l[k] r (hfa k hk) hs0 hs1
    have hck := hcnt k hk
    generalize serve2 l[k].id l[k] r = x at hs hok
    simp only [svcC] at hs
    repeat (first
      | (refine Tri.seq fun K hK => ?_)
      | (refine Tri.region ?_; simp [upd, hn, s0, s35, s3, x3, s5, h37, h36, hk])
      | (refine Tri.draw (by kernel_rfl) (by decide +kernel) ?_; simp [upd, hn, s0, s35, s3, x3, s5, h37, h36, hk])
      | (refine Tri.draw2 [9] [0, 1, 2, 3, 4, 5, 6, 7, 8] [9, 10, 11] [] (by kernel_rfl) (by kernel_rfl) (by decide) (by rfl) (by decide +kernel) ?_; simp [upd, hn, s0, s35, s3, x3, s5, h37, h36, hk])
      | (refine Tri.cond_true ?_ ?_; (focus simp [upd, hn, s0, s35, s3, x3, s5, h37, h36, hk]; done))
      | (refine Tri.cond_false ?_ ?_; (focus simp [upd, hn, s0, s35, s3, x3, s5, h37, h36, hk]; done))
      | (refine Tri.skip ?_; simp only [thenS, blockS])
      | (refine Tri.block_seq ?_)
      | (refine Tri.block_region ?_)
      | (refine Tri.block_cond ?_)
      | ((with_reducible refine CallK.pure (h3) (Wks.refl _) ?_); simp [upd, hn, s0, s35, s3, x3, s5, h37, h36, hk])
      | ((with_reducible refine CallK.pure (hs) (Wks.refl _) ?_); simp [upd, hn, s0, s35, s3, x3, s5, h37, h36, hk])
      | (refine Tri.exit ?_; simp [upd, hn, s0, s35, s3, x3, s5, h37, h36, hk]; first | (rename ∀ st, Tri _ _ _ st _ → _ => hK; first | (apply hK; clear hK) | (clear hK; rename ∀ st, Tri _ _ _ st _ → _ => hK; first | (apply hK; clear hK) | (clear hK; rename ∀ st, Tri _ _ _ st _ → _ => hK; first | (apply hK; clear hK) | (clear hK; rename ∀ st, Tri _ _ _ st _ → _ => hK; first | (apply hK; clear hK) | (clear hK; rename ∀ st, Tri _ _ _ st _ → _ => hK; first | (apply hK; clear hK) | (clear hK; rename ∀ st, Tri _ _ _ st _ → _ => hK; apply hK; clear hK)))))) | skip)
      | (intro β)
      | (rename ∀ st, Tri _ _ _ st _ → _ => hK; apply hK; clear hK))
    refine Tri.range 52 51 53 63 121 rfl rfl y.length (Q2 l nl r y ny k l[k] x) (by simp) (by omega) ?_ rfl (by simp [upd]) (by simp [upd]) ?_ ?_ ?_
    · rintro j st t v ht ⟨b3, b8, b9, h, s8, x8, s9, x9, s10, s50, t37, t36, s11⟩
      refine ⟨b3, b8, b9, h.put t v (by omega), ?_, x8, ?_, x9, ?_, ?_, ?_, ?_, ?_⟩
      all_goals (rcases ht with rfl | rfl | rfl <;> simpa [upd] using (by assumption))
    · exact ⟨b3, _, _, ⟨rfl, by simp [upd, s0], by simp [upd, s35], by simp [upd, s3], by simp [upd, x3], by simp [upd, s5]⟩, by simp [upd] <;> exact rfl, by simp [upd] <;> exact rfl, by simp [upd] <;> exact rfl, by simp [upd] <;> exact rfl, by simp [upd], by simp [upd], by simp [upd, h37], by simp [upd, h36], by simp [upd, cntF]⟩
    · rintro j st hj ⟨b3, b8, b9, ⟨-, s0, s35, s3, x3, s5⟩, s8, x8, s9, x9, s10, s50, t37, t36, s11⟩ hn h52 h51
      have hct := cntF_take l[k].id y j hj
      have hcl := cntF_le l[k].id (y.take j)
      rw [List.length_take_of_le (by omega)] at hcl
      have hw : IntKind.i64.wrap ((cntF l[k].id (y.take j) : Nat) + 1 : Int) = ((cntF l[k].id (y.take j) + 1 : Nat) : Int) := wrap_succ (by omega)
      generalize cntF l[k].id (y.take j) = c at *
      cases m : (y[j].f == l[k].id)
      · rw [if_neg (by simpa using m), Nat.add_zero] at hct
        repeat (first
          | (refine Tri.seq fun K hK => ?_)
          | (refine Tri.region ?_; simp [upd, hn, s0, s35, s3, x3, s5, s8, x8, s9, x9, s10, s50, t37, t36, s11, h52, h51, hj, m])
          | (refine Tri.draw (by kernel_rfl) (by decide +kernel) ?_; simp [upd, hn, s0, s35, s3, x3, s5, s8, x8, s9, x9, s10, s50, t37, t36, s11, h52, h51, hj, m])
          | (refine Tri.cond_true ?_ ?_; (focus simp [upd, hn, s0, s35, s3, x3, s5, s8, x8, s9, x9, s10, s50, t37, t36, s11, h52, h51, hj, m]; done))
          | (refine Tri.cond_false ?_ ?_; (focus simp [upd, hn, s0, s35, s3, x3, s5, s8, x8, s9, x9, s10, s50, t37, t36, s11, h52, h51, hj, m]; done))
          | (refine Tri.skip ?_; simp only [thenS, blockS])
          | (refine Tri.block_seq ?_)
          | (refine Tri.block_region ?_)
          | (refine Tri.block_cond ?_)
          | (refine Tri.exit ?_; simp [upd, hn, s0, s35, s3, x3, s5, s8, x8, s9, x9, s10, s50, t37, t36, s11, h52, h51, hj, m]; first | (rename ∀ st, Tri _ _ _ st _ → _ => hK; first | (apply hK; clear hK) | (clear hK; rename ∀ st, Tri _ _ _ st _ → _ => hK; first | (apply hK; clear hK) | (clear hK; rename ∀ st, Tri _ _ _ st _ → _ => hK; first | (apply hK; clear hK) | (clear hK; rename ∀ st, Tri _ _ _ st _ → _ => hK; first | (apply hK; clear hK) | (clear hK; rename ∀ st, Tri _ _ _ st _ → _ => hK; first | (apply hK; clear hK) | (clear hK; rename ∀ st, Tri _ _ _ st _ → _ => hK; apply hK; clear hK)))))) | skip)
          | (intro β)
          | (rename ∀ st, Tri _ _ _ st _ → _ => hK; apply hK; clear hK))
        refine ⟨⟨b3, b8, b9, ⟨rfl, by simp [upd, s0], by simp [upd, s35], by simp [upd, s3], by simp [upd, x3], by simp [upd, s5]⟩, by simp [upd, s8], by simp [upd, x8], by simp [upd, s9], by simp [upd, x9], by simp [upd, s10], by simp [upd, s50], by simp [upd, t37], by simp [upd, t36], by rw [hct]; simp [upd, s11]⟩, ?_⟩
        simp [upd, h52, h51]
      · rw [if_pos (by simpa using m)] at hct
        repeat (first
          | (refine Tri.seq fun K hK => ?_)
          | (refine Tri.region ?_; simp [upd, hn, s0, s35, s3, x3, s5, s8, x8, s9, x9, s10, s50, t37, t36, s11, h52, h51, hj, m, hw])
          | (refine Tri.draw (by kernel_rfl) (by decide +kernel) ?_; simp [upd, hn, s0, s35, s3, x3, s5, s8, x8, s9, x9, s10, s50, t37, t36, s11, h52, h51, hj, m, hw])
          | (refine Tri.cond_true ?_ ?_; (focus simp [upd, hn, s0, s35, s3, x3, s5, s8, x8, s9, x9, s10, s50, t37, t36, s11, h52, h51, hj, m, hw]; done))
          | (refine Tri.cond_false ?_ ?_; (focus simp [upd, hn, s0, s35, s3, x3, s5, s8, x8, s9, x9, s10, s50, t37, t36, s11, h52, h51, hj, m, hw]; done))
          | (refine Tri.skip ?_; simp only [thenS, blockS])
          | (refine Tri.block_seq ?_)
          | (refine Tri.block_region ?_)
          | (refine Tri.block_cond ?_)
          | (refine Tri.exit ?_; simp [upd, hn, s0, s35, s3, x3, s5, s8, x8, s9, x9, s10, s50, t37, t36, s11, h52, h51, hj, m, hw]; first | (rename ∀ st, Tri _ _ _ st _ → _ => hK; first | (apply hK; clear hK) | (clear hK; rename ∀ st, Tri _ _ _ st _ → _ => hK; first | (apply hK; clear hK) | (clear hK; rename ∀ st, Tri _ _ _ st _ → _ => hK; first | (apply hK; clear hK) | (clear hK; rename ∀ st, Tri _ _ _ st _ → _ => hK; first | (apply hK; clear hK) | (clear hK; rename ∀ st, Tri _ _ _ st _ → _ => hK; first | (apply hK; clear hK) | (clear hK; rename ∀ st, Tri _ _ _ st _ → _ => hK; apply hK; clear hK)))))) | skip)
          | (intro β)
          | (rename ∀ st, Tri _ _ _ st _ → _ => hK; apply hK; clear hK))
        exact ⟨b3, b8, b9, ⟨rfl, by simp [upd, s0], by simp [upd, s35], by simp [upd, s3], by simp [upd, x3], by simp [upd, s5]⟩, by simp [upd, s8], by simp [upd, x8], by simp [upd, s9], by simp [upd, x9], by simp [upd, s10], by simp [upd, s50], by simp [upd, t37], by simp [upd, t36], by rw [hct]; simp [upd]⟩
    · rintro st ⟨b3, b8, b9, ⟨-, s0, s35, s3, x3, s5⟩, s8, x8, s9, x9, s10, s50, t37, t36, s11⟩ hn
      rw [List.take_length, hck] at s11
      obtain ⟨q1, q2, q3, q4, q5, q6, q7⟩ := hok
      generalize (lateF l[k] r).length = L at *
      rw [q1] at q2 q6
      have c1 : ¬ x.frames < (L : Int) := by omega
      have c2 : ¬ x.att < x.lost := by omega
      have c3 : ¬ x.most < x.least := by omega
      have c4 : ¬ l[k].dea < x.most := by omega
      rename ∀ st, Tri _ _ _ st _ → _ => hK
      apply hK
      by_cases m : 0 < x.most
      · have m1 := q6.1 m
        have m2 := q7.2 m
        repeat (first
          | (refine Tri.seq fun K hK => ?_)
          | (refine Tri.region ?_; simp [upd, hn, s0, s35, s3, x3, s5, s8, x8, s9, x9, s10, t37, t36, s11, bne, q1, c1, c2, c3, c4, m, m1, m2])
          | (refine Tri.draw (by kernel_rfl) (by decide +kernel) ?_; simp [upd, hn, s0, s35, s3, x3, s5, s8, x8, s9, x9, s10, t37, t36, s11, bne, q1, c1, c2, c3, c4, m, m1, m2])
          | (refine Tri.cond_true ?_ ?_; (focus simp [upd, hn, s0, s35, s3, x3, s5, s8, x8, s9, x9, s10, t37, t36, s11, bne, q1, c1, c2, c3, c4, m, m1, m2]; done))
          | (refine Tri.cond_false ?_ ?_; (focus simp [upd, hn, s0, s35, s3, x3, s5, s8, x8, s9, x9, s10, t37, t36, s11, bne, q1, c1, c2, c3, c4, m, m1, m2]; done))
          | (refine Tri.skip ?_; simp only [thenS, blockS])
          | (refine Tri.block_seq ?_)
          | (refine Tri.block_region ?_)
          | (refine Tri.block_cond ?_)
          | (refine Tri.exit ?_; simp [upd, hn, s0, s35, s3, x3, s5, s8, x8, s9, x9, s10, t37, t36, s11, bne, q1, c1, c2, c3, c4, m, m1, m2]; first | (rename ∀ st, Tri _ _ _ st _ → _ => hK; first | (apply hK; clear hK) | (clear hK; rename ∀ st, Tri _ _ _ st _ → _ => hK; first | (apply hK; clear hK) | (clear hK; rename ∀ st, Tri _ _ _ st _ → _ => hK; first | (apply hK; clear hK) | (clear hK; rename ∀ st, Tri _ _ _ st _ → _ => hK; first | (apply hK; clear hK) | (clear hK; rename ∀ st, Tri _ _ _ st _ → _ => hK; first | (apply hK; clear hK) | (clear hK; rename ∀ st, Tri _ _ _ st _ → _ => hK; apply hK; clear hK)))))) | skip)
          | (intro β)
          | (rename ∀ st, Tri _ _ _ st _ → _ => hK; apply hK; clear hK))
        refine ⟨⟨b3, rfl, by simp [upd, s0], by simp [upd, s35], by simp [upd, s3], by simp [upd, x3], by simp [upd, s5]⟩, ?_⟩
        simp [upd, t37, t36]
      · have m1 : ¬ (L : Int) < x.frames := fun h => m (q6.2 h)
        have m2 : ¬ 0 < x.least := fun h => m (q7.1 h)
        repeat (first
          | (refine Tri.seq fun K hK => ?_)
          | (refine Tri.region ?_; simp [upd, hn, s0, s35, s3, x3, s5, s8, x8, s9, x9, s10, t37, t36, s11, bne, q1, c1, c2, c3, c4, m, m1, m2])
          | (refine Tri.draw (by kernel_rfl) (by decide +kernel) ?_; simp [upd, hn, s0, s35, s3, x3, s5, s8, x8, s9, x9, s10, t37, t36, s11, bne, q1, c1, c2, c3, c4, m, m1, m2])
          | (refine Tri.cond_true ?_ ?_; (focus simp [upd, hn, s0, s35, s3, x3, s5, s8, x8, s9, x9, s10, t37, t36, s11, bne, q1, c1, c2, c3, c4, m, m1, m2]; done))
          | (refine Tri.cond_false ?_ ?_; (focus simp [upd, hn, s0, s35, s3, x3, s5, s8, x8, s9, x9, s10, t37, t36, s11, bne, q1, c1, c2, c3, c4, m, m1, m2]; done))
          | (refine Tri.skip ?_; simp only [thenS, blockS])
          | (refine Tri.block_seq ?_)
          | (refine Tri.block_region ?_)
          | (refine Tri.block_cond ?_)
          | (refine Tri.exit ?_; simp [upd, hn, s0, s35, s3, x3, s5, s8, x8, s9, x9, s10, t37, t36, s11, bne, q1, c1, c2, c3, c4, m, m1, m2]; first | (rename ∀ st, Tri _ _ _ st _ → _ => hK; first | (apply hK; clear hK) | (clear hK; rename ∀ st, Tri _ _ _ st _ → _ => hK; first | (apply hK; clear hK) | (clear hK; rename ∀ st, Tri _ _ _ st _ → _ => hK; first | (apply hK; clear hK) | (clear hK; rename ∀ st, Tri _ _ _ st _ → _ => hK; first | (apply hK; clear hK) | (clear hK; rename ∀ st, Tri _ _ _ st _ → _ => hK; first | (apply hK; clear hK) | (clear hK; rename ∀ st, Tri _ _ _ st _ → _ => hK; apply hK; clear hK)))))) | skip)
          | (intro β)
          | (rename ∀ st, Tri _ _ _ st _ → _ => hK; apply hK; clear hK))
        refine ⟨⟨b3, rfl, by simp [upd, s0], by simp [upd, s35], by simp [upd, s3], by simp [upd, x3], by simp [upd, s5]⟩, ?_⟩
        simp [upd, t37, t36]
  · rintro st ⟨b3, ⟨-, s0, s35, s3, x3, s5⟩⟩ hn
    rename ∀ st, Tri _ _ _ st _ → _ => hK
    apply hK
    repeat (first
      | (refine Tri.seq fun K hK => ?_)
      | (refine Tri.region ?_; simp [upd, hn])
      | (refine Tri.draw (by kernel_rfl) (by decide +kernel) ?_; simp [upd, hn])
      | (refine Tri.cond_true ?_ ?_; (focus simp [upd, hn]; done))
      | (refine Tri.cond_false ?_ ?_; (focus simp [upd, hn]; done))
      | (refine Tri.skip ?_; simp only [thenS, blockS])
      | (refine Tri.block_seq ?_)
      | (refine Tri.block_region ?_)
      | (refine Tri.block_cond ?_)
      | (refine Tri.exit ?_; simp [upd, hn]; first | (rename ∀ st, Tri _ _ _ st _ → _ => hK; first | (apply hK; clear hK) | (clear hK; rename ∀ st, Tri _ _ _ st _ → _ => hK; first | (apply hK; clear hK) | (clear hK; rename ∀ st, Tri _ _ _ st _ → _ => hK; first | (apply hK; clear hK) | (clear hK; rename ∀ st, Tri _ _ _ st _ → _ => hK; first | (apply hK; clear hK) | (clear hK; rename ∀ st, Tri _ _ _ st _ → _ => hK; first | (apply hK; clear hK) | (clear hK; rename ∀ st, Tri _ _ _ st _ → _ => hK; apply hK; clear hK)))))) | skip)
      | (intro β)
      | (rename ∀ st, Tri _ _ _ st _ → _ => hK; apply hK; clear hK))
    refine Tri.ret ⟨_, rfl, ?_⟩
    simp [upd]
    exact Wk.refl _
end Go.Proofs.Ytngbpmiikpjiaaa
end
section
open Go Go.Vm
open Go.ChangeShapes Go.WideShapes Go.ChangeAt Go.RowKit
namespace Go.Proofs.Ytngbpmiikpjiaaa.monitorCounts
set_option linter.unusedVariables false
theorem own : ownKnob Try.prog.godebug = none := by kernel_rfl
set_option maxRecDepth 100000 in
theorem lifted (os : Os) (started : os.Started) (H : Type) (enc : TypeId × Value → H) :
    ReturnsInHanded {} Try.checked os 6 .any (Rows.monitorCountsSpec.pre6 enc Try.prog Try.f6 Rows.monitorCountsRow.domain false) (Rows.monitorCountsSpec.post enc Try.prog Try.f6 false true false false) := by
  refine returnsInHanded_of_change (C := Try.checked) own started (by kernel_rfl) Try.func6
    (ChangeSpec.witness6 (enc := enc) (C := Try.checked) false ⟨#[], #[.slice none 0 0, .agg #[.int .i64 0, .slice none 0 0, .slice none 0 0]], []⟩ 8 (by kernel_rfl) (by kernel_rfl) (by kernel_rfl) (by kernel_rfl)) ?_
  intro W base args ds gs before hval0 hW hcnd _
  have hval : ∀ (j : Nat) t v, Try.f6.params[j]? = some t → args[j]? = some v → Value.okWide Try.prog W .any base t v := hval0
  have hW' := hW
  obtain ⟨p, q, hA0, hV, rfl, hfz, hnd⟩ := hW
  have hA : DataW.TrodAll enc Try.prog W 0 (fun _ => true) true Try.f6.params.toList args.toList ds p := hA0
  rw [Try.params6] at hA hval
  obtain ⟨v0, vs0, d0, ds0, p0, q0, hargs0, rfl, rfl, h0, r0⟩ := trodAll_cons hA
  obtain ⟨v1, vs1, d1, ds1, p1, q1, hargs1, rfl, rfl, h1, r1⟩ := trodAll_cons r0
  subst hargs1
  obtain ⟨rfl, rfl, rfl⟩ := trodAll_nil r1
  obtain rfl : args = #[v0, v1] := by cases args; simp_all
  obtain ⟨rfl, rfl⟩ := trodVars_none hV
  obtain ⟨ln, l, hla, hll, hv0⟩ := open_flows (hval 0 22 v0 rfl rfl) h0
  obtain ⟨r, hra, hrd, hrl, hrm, hv1⟩ := open_rec (hval 1 28 v1 rfl rfl) h1
  clear hA0 hval0
  simp only [List.append_nil] at hW'
  have hlt := hW'.lt
  have hD := (monitorCounts_does l ln r hla hra hrd).2 (fun b _ => b < W.heap.size) W [v0, v1] ⟨rfl, fun k hk => match k, hk with
    | 0, _ => hv0
    | 1, _ => hv1⟩ (fun b _ h => h)
  refine hD.mono fun e W' ⟨u, F', he, hu, hl⟩ => ?_
  subst he
  have hb : Below W.heap.size W W' := ⟨hl.os, hl.tape, hl.output, hl.size, hl.block⟩
  have hu' := hu.inv
  cases hu'
  have hsame0 : ∀ p ∈ p0, W.sameAt W' p := fun p hp => hb.same (hlt p (by simp [hp]))
  have hsame1 : ∀ p ∈ p1, W.sameAt W' p := fun p hp => hb.same (hlt p (by simp [hp]))
  exact ⟨_, rfl, post_below (pa := (p0 ++ (p1 ++ []))) (pv := []) hW' hb (by simp) (fun _ _ _ => (trodAll_cons_mk (shut_bool Try.underlying4 _) trodAll_mk0))
    (fun sp hsp => (trodAll_cons_mk (WideElems.Trod_stays (by kernel_rfl) (by kernel_rfl) (by decide +kernel) h0 hsame0 fun p hp => hsp p (by simp [hp])) (trodAll_cons_mk (WideElems.Trod_stays (by kernel_rfl) (by kernel_rfl) (by decide +kernel) h1 hsame1 fun p hp => hsp p (by simp [hp])) trodAll_mk0)))
    (fun _ _ => rfl) (ok_one (by kernel_rfl) rfl (okWide_bool_mk Try.underlying4 _))⟩
theorem over : Rows.monitorCountsRow.holds Try.pinned (OpenSpec.ofChange Rows.monitorCountsSpec) :=
  OpenClaim.holds_of_wide 6 Try.f6 rfl rfl rfl rfl rfl rfl rfl ⟨rfl, rfl, rfl, rfl, rfl⟩ rfl rfl rfl rfl rfl (by kernel_rfl) Try.func6 (by kernel_rfl)
    (of_decide_eq_true (by kernel_rfl)) (by unfold Func.isWrapper; first | (rw [if_pos (by decide +kernel)]; kernel_rfl) | (rw [if_neg (by decide +kernel)]; exact ⟨rfl, rfl⟩))
    (fun os started H enc _ => lifted os started H enc)
theorem proved : Rows.MonitorCountsSaid :=
  over
end Go.Proofs.Ytngbpmiikpjiaaa.monitorCounts
end
