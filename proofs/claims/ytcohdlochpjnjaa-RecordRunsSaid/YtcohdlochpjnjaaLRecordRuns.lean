/- For every record, flow, frame and nodes: RecordRuns answers true, and its arguments read afterwards as before; no condition. -/
import Derived.Test.YtcohdlochpjnjaaB4
import Derived.Test.YtcohdlochpjnjaaRows
import Derived.ShutString
set_option linter.all false
section
open Go Go.Vm
namespace Go.Proofs.Ytcohdlochpjnjaa
set_option maxRecDepth 100000
set_option maxHeartbeats 4000000
set_option linter.unusedSimpArgs false
/-- The runs of losses of attempts that all are on the link. -/
def lg : List Int → List Att → List (List Int)
  | run, [] => if run = [] then [] else [run]
  | run, a :: r => if a.out = 1 then (if run = [] then lg [] r else run :: lg [] r) else lg (run ++ [a.slot]) r
def onL (frm to : Int) (l : List Att) : List Att := l.filter fun a => decide (a.frm = frm ∧ a.to = to)
theorem lossGo_lg (frm to : Int) : ∀ (l : List Att) (run : List Int), lossGo frm to run l = lg run (onL frm to l)
  | [], run => by simp [lossGo, lg, onL]
  | a :: l, run => by
    rw [lossGo]
    by_cases h : a.frm = frm ∧ a.to = to
    · have e : onL frm to (a :: l) = a :: onL frm to l := by simp [onL, h]
      rw [if_pos h, e, lg, lossGo_lg, lossGo_lg]
    · have e : onL frm to (a :: l) = onL frm to l := by simp [onL, h]
      rw [if_neg h, e, lossGo_lg]
theorem lg_head : ∀ (d : List Att) (q : List Int), q ≠ [] → ∃ t rs, lg q d = (q ++ t) :: rs
  | [], q, h => ⟨[], [], by simp [lg, h]⟩
  | a :: d, q, h => by
    rw [lg]
    split
    · exact ⟨[], lg [] d, by simp [h]⟩
    · obtain ⟨t, rs, e⟩ := lg_head d (q ++ [a.slot]) (by simp)
      exact ⟨a.slot :: t, rs, by simp [e]⟩
def ackHead (l : List Att) : Prop := ∀ a d, l = a :: d → a.out = 1
/-- A run that has been read up to a place goes on there. -/
theorem lg_next {d : List Att} {run : List Int} {rs : List (List Int)} {j : Nat} (hj : j < run.length) (h : lg (run.take j) d = run :: rs) (h0 : j = 0 → ¬ ackHead d) :
    ∃ a d', d = a :: d' ∧ a.out ≠ 1 ∧ a.slot = run[j] ∧ lg (run.take (j + 1)) d' = run :: rs := by
  have hq : j ≠ 0 → run.take j ≠ [] := fun hj0 e => by
    have := congrArg List.length e
    simp only [List.length_take, List.length_nil] at this
    omega
  have hne : ∀ rs' rs'', (run.take j) :: rs' = run :: rs'' → False := fun rs' rs'' e => by
    have := congrArg (fun x : List (List Int) => x.map List.length) e
    simp only [List.map_cons, List.length_take, List.cons.injEq] at this
    omega
  cases d with
  | nil =>
    rw [lg] at h
    split at h
    · cases h
    · exact (hne _ _ h).elim
  | cons a d' =>
    rw [lg] at h
    by_cases ha : a.out = 1
    · rw [if_pos ha] at h
      by_cases hj0 : j = 0
      · exact (h0 hj0 (fun b e he => by cases he; exact ha)).elim
      · rw [if_neg (hq hj0)] at h
        exact (hne _ _ h).elim
    · rw [if_neg ha] at h
      obtain ⟨t, rs', e⟩ := lg_head d' (run.take j ++ [a.slot]) (by simp)
      have e2 : run = run.take j ++ a.slot :: t := by
        rw [h] at e
        simpa using (List.cons.inj e).1
      have e3 : a.slot = run[j] := by
        have h1 : run[j]? = some a.slot := by
          rw [e2, List.getElem?_append_right (by rw [List.length_take]; omega)]
          simp [Nat.min_eq_left (Nat.le_of_lt hj)]
        rw [List.getElem?_eq_getElem hj] at h1
        exact (Option.some.inj h1).symm
      refine ⟨a, d', rfl, ha, e3, ?_⟩
      rw [List.take_succ_eq_append_getElem hj, ← e3]
      exact h
theorem lg_end {d : List Att} {run : List Int} {rs : List (List Int)} (hr : run ≠ []) (h : lg run d = run :: rs) : lg [] d = rs ∧ ackHead d := by
  cases d with
  | nil => rw [lg, if_neg hr] at h; cases h; exact ⟨by simp [lg], fun a d e => by cases e⟩
  | cons a d' =>
    rw [lg] at h
    by_cases ha : a.out = 1
    · rw [if_pos ha, if_neg hr] at h
      refine ⟨by rw [lg, if_pos ha, if_pos rfl]; exact (List.cons.inj h).2, fun b e he => by cases he; exact ha⟩
    · rw [if_neg ha] at h
      obtain ⟨t, rs', e⟩ := lg_head d' (run ++ [a.slot]) (by simp)
      rw [h] at e
      have := congrArg List.length (List.cons.inj e).1
      simp only [List.length_append, List.length_cons, List.length_nil] at this
      omega
theorem lg_nil : ∀ (d : List Att), lg [] d = [] → ∀ a ∈ d, a.out = 1
  | [], _ => by simp
  | a :: d, h => by
    rw [lg] at h
    by_cases ha : a.out = 1
    · rw [if_pos ha, if_pos rfl] at h
      intro x hx
      rcases List.mem_cons.1 hx with rfl | hx
      · exact ha
      · exact lg_nil d h x hx
    · rw [if_neg ha] at h
      obtain ⟨t, rs', e⟩ := lg_head d ([] ++ [a.slot]) (by simp)
      rw [e] at h; cases h
theorem lg_ne : ∀ (d : List Att) (q : List Int), ∀ x ∈ lg q d, x ≠ []
  | [], q => by
    rw [lg]
    split
    · simp
    · rename_i h; simpa using h
  | a :: d, q => by
    rw [lg]
    split
    · split
      · exact lg_ne d []
      · rename_i h
        intro x hx
        rcases List.mem_cons.1 hx with rfl | hx
        · exact h
        · exact lg_ne d [] x hx
    · exact lg_ne d _
theorem lg_len : ∀ (d : List Att) (q : List Int), (lg q d).length ≤ d.length + 1
  | [], q => by rw [lg]; split <;> simp
  | a :: d, q => by
    have h1 := lg_len d []
    have h2 := lg_len d (q ++ [a.slot])
    rw [lg]
    split
    · split <;> simp <;> omega
    · simp; omega
theorem lg_lens : ∀ (d : List Att) (q : List Int), ∀ x ∈ lg q d, x.length ≤ q.length + d.length
  | [], q => by
    rw [lg]
    split
    · simp
    · simp
  | a :: d, q => by
    have h1 := lg_lens d []
    have h2 := lg_lens d (q ++ [a.slot])
    rw [lg]
    split
    · split
      · intro x hx; have := h1 x hx; simp at this ⊢; omega
      · intro x hx
        rcases List.mem_cons.1 hx with rfl | hx
        · simp
        · have := h1 x hx; simp at this ⊢; omega
    · intro x hx; have := h2 x hx; simp at this ⊢; omega
theorem attempts_does2 (r : Rec) (flow frame : Int) (hl : r.atts.length ≤ 1099511627776) : Does Try.prog 20 [.agg (recC r), .c (.int .i64 flow), .c (.int .i64 frame)] (.c (.sl (attsOf r flow frame).isEmpty 8 none ((attsOf r flow frame).map attC))) := attempts_does r flow frame hl
attribute [local irreducible] Tri Does DoesB Rounds check sameB losses attsOf
structure UI (r : Rec) (flow frame frm to : Int) (st : St) (b5 : Nat) (G : C) : Prop where
  hn : st.n = 160
  s1 : st.sl 1 = .c (.int .i64 flow)
  s2 : st.sl 2 = .c (.int .i64 frame)
  s3 : st.sl 3 = .c (.int .i64 frm)
  s4 : st.sl 4 = .c (.int .i64 to)
  s5 : st.sl 5 = .c (.box 5 b5 0)
  x5 : st.bx 5 = some (b5, [.int .i64 r.slots, .sl r.an 8 none (r.atts.map attC), .sl r.dn 3 none (r.dels.map delC)])
  s11 : st.sl 11 = .c G
theorem UI.put {r : Rec} {flow frame frm to : Int} {st : St} {b5 : Nat} {G : C} (h : UI r flow frame frm to st b5 G) (t : Nat) (v : V) (ht : 11 < t) : UI r flow frame frm to (st.put (some t) v) b5 G := by
  exact ⟨h.hn, by simp [upd, h.s1, show ¬ 1 = t by omega], by simp [upd, h.s2, show ¬ 2 = t by omega], by simp [upd, h.s3, show ¬ 3 = t by omega], by simp [upd, h.s4, show ¬ 4 = t by omega], by simp [upd, h.s5, show ¬ 5 = t by omega], h.x5, by simp [upd, h.s11, show ¬ 11 = t by omega]⟩
def UInv1 (r : Rec) (flow frame frm to : Int) (l0 : List Att) (nl : Bool) (k : Nat) (st : St) : Prop := ∃ b5 G, UI r flow frame frm to st b5 G ∧ st.sl 41 = .c (.sl nl 8 none (l0.map attC)) ∧ GC st G 73 45 8 ((onL frm to (l0.take k)).map attC)
def WInv3 (l : List Att) (rl : Bool) (runs : List (List Int)) (k at' : Nat) (run : List Int) (rs : List (List Int)) (n : Nat) (nl : Bool) (own : Option (Nat × Nat)) (m : Nat) (st : St) : Prop :=
  ∃ p c, p = at' + c ∧ m + p = l.length ∧ st.n = 160 ∧ st.sl 11 = .c (.sl nl n own (l.map attC)) ∧ st.sl 82 = .c (.sl rl 1 none (runsC runs)) ∧ st.sl 84 = .c (.int .i64 (k : Nat)) ∧ st.sl 83 = .c (.int .i64 (runs.length : Nat)) ∧
    st.sl 16 = .c (.int .i64 (k : Nat)) ∧ st.sl 17 = .c (runC run) ∧ st.sl 15 = .c (.int .i64 (p : Nat)) ∧ st.sl 18 = .c (.int .i64 (c : Nat)) ∧ lg [] (l.drop p) = run :: rs
def WEnd3 (l : List Att) (rl : Bool) (runs : List (List Int)) (k at' : Nat) (run : List Int) (rs : List (List Int)) (n : Nat) (nl : Bool) (own : Option (Nat × Nat)) (st : St) : Prop :=
  ∃ p c, p = at' + c ∧ st.n = 160 ∧ st.sl 11 = .c (.sl nl n own (l.map attC)) ∧ st.sl 82 = .c (.sl rl 1 none (runsC runs)) ∧ st.sl 84 = .c (.int .i64 (k : Nat)) ∧ st.sl 83 = .c (.int .i64 (runs.length : Nat)) ∧
    st.sl 16 = .c (.int .i64 (k : Nat)) ∧ st.sl 17 = .c (runC run) ∧ st.sl 15 = .c (.int .i64 (p : Nat)) ∧ st.sl 18 = .c (.int .i64 (c : Nat)) ∧ lg [] (l.drop p) = run :: rs ∧ p ≤ l.length ∧ ¬ ackHead (l.drop p)
def WInv4 (l : List Att) (rl : Bool) (runs : List (List Int)) (k : Nat) (run : List Int) (rs : List (List Int)) (n : Nat) (nl : Bool) (own : Option (Nat × Nat)) (j : Nat) (st : St) : Prop :=
  ∃ p, p ≤ l.length ∧ st.sl 11 = .c (.sl nl n own (l.map attC)) ∧ st.sl 82 = .c (.sl rl 1 none (runsC runs)) ∧ st.sl 84 = .c (.int .i64 (k : Nat)) ∧ st.sl 83 = .c (.int .i64 (runs.length : Nat)) ∧
    st.sl 114 = .c (runC run) ∧ st.sl 15 = .c (.int .i64 (p : Nat)) ∧ lg (run.take j) (l.drop p) = run :: rs ∧ (j = 0 → ¬ ackHead (l.drop p))
structure WI (l : List Att) (rl : Bool) (runs : List (List Int)) (k : Nat) (st : St) (nl : Bool) (n : Nat) (own : Option (Nat × Nat)) (at' : Nat) : Prop where
  hn : st.n = 160
  s11 : st.sl 11 = .c (.sl nl n own (l.map attC))
  hl : l = [] ∨ n = 8
  s82 : st.sl 82 = .c (.sl rl 1 none (runsC runs))
  s15 : st.sl 15 = .c (.int .i64 at')
  ha : at' ≤ l.length
  hg : lg [] (l.drop at') = runs.drop k
  hh : 0 < k → ackHead (l.drop at')
def WInv2 (l : List Att) (rl : Bool) (runs : List (List Int)) (k : Nat) (st : St) : Prop := ∃ nl n own at', WI l rl runs k st nl n own at'
theorem onL_take (frm to : Int) (l : List Att) (k : Nat) (hk : k < l.length) : onL frm to (l.take (k + 1)) = onL frm to (l.take k) ++ (if l[k].frm = frm ∧ l[k].to = to then [l[k]] else []) := by
  rw [List.take_succ_eq_append_getElem hk]
  unfold onL
  rw [List.filter_append]
  by_cases h : l[k].frm = frm ∧ l[k].to = to <;> simp [h]
theorem onL_le (frm to : Int) (l : List Att) : (onL frm to l).length ≤ l.length := List.length_filter_le ..
theorem runs_does (r : Rec) (flow frame frm to : Int) (h1 : r.an = true → r.atts = []) (h2 : r.dn = true → r.dels = []) : Does Try.prog 6 [.agg (recC r), .c (.int .i64 flow), .c (.int .i64 frame), .c (.int .i64 frm), .c (.int .i64 to)] (.c (.bool true)) := by
  have l0 := awake_does
  have l1 := few_does r
  refine Does.of_body Try.func6 rfl (by kernel_rfl) rfl rfl (by simp) ?_
  intro E
  cases hf : (decide (r.atts.length ≤ 150) && decide (r.dels.length ≤ 100))
  case false =>
    rw [hf] at l1
    simp only [recC] at l1 ⊢
    repeat (first
      | (refine Tri.seq fun K hK => ?_)
      | (refine Tri.region ?_; simp [upd])
      | (refine Tri.draw (by kernel_rfl) (by kernel_rfl) ?_; simp [upd])
      | (refine Tri.cond_true ?_ ?_; (focus simp [upd]; done))
      | (refine Tri.cond_false ?_ ?_; (focus simp [upd]; done))
      | (refine Tri.skip ?_; simp only [thenS, blockS])
      | (refine Tri.block_seq ?_)
      | (refine Tri.block_region ?_)
      | (refine Tri.block_cond ?_)
      | ((with_reducible refine CallK.pure (l0) (Wks.refl _) ?_); simp [upd])
      | ((with_reducible refine CallK.pure (l1) (Wks.refl _) ?_); simp [upd])
      | (refine Tri.exit ?_; simp [upd]; first | (rename ∀ st, Tri _ _ _ st _ → _ => hK; first | (apply hK; clear hK) | (clear hK; rename ∀ st, Tri _ _ _ st _ → _ => hK; first | (apply hK; clear hK) | (clear hK; rename ∀ st, Tri _ _ _ st _ → _ => hK; first | (apply hK; clear hK) | (clear hK; rename ∀ st, Tri _ _ _ st _ → _ => hK; first | (apply hK; clear hK) | (clear hK; rename ∀ st, Tri _ _ _ st _ → _ => hK; first | (apply hK; clear hK) | (clear hK; rename ∀ st, Tri _ _ _ st _ → _ => hK; apply hK; clear hK)))))) | skip)
      | (intro β)
      | (rename ∀ st, Tri _ _ _ st _ → _ => hK; apply hK; clear hK))
    refine Tri.ret ⟨_, rfl, ?_⟩
    simp [upd]
    exact Wk.refl _
  rw [hf] at l1
  simp only [Bool.and_eq_true, decide_eq_true_eq] at hf
  have hok : RecOk r := ⟨h1, h2, by omega, by omega⟩
  have l2 := cp_does r hok
  have l4 := check_does r
  cases hc : (check r == 0)
  case false =>
    simp only [recC] at l1 l2 l4 ⊢
    repeat (first
      | (refine Tri.seq fun K hK => ?_)
      | (refine Tri.region ?_; simp [upd, hc, bne])
      | (refine Tri.draw (by kernel_rfl) (by kernel_rfl) ?_; simp [upd, hc, bne])
      | (refine Tri.cond_true ?_ ?_; (focus simp [upd, hc, bne]; done))
      | (refine Tri.cond_false ?_ ?_; (focus simp [upd, hc, bne]; done))
      | (refine Tri.skip ?_; simp only [thenS, blockS])
      | (refine Tri.block_seq ?_)
      | (refine Tri.block_region ?_)
      | (refine Tri.block_cond ?_)
      | ((with_reducible refine CallK.pure (l0) (Wks.refl _) ?_); simp [upd, hc, bne])
      | ((with_reducible refine CallK.pure (l1) (Wks.refl _) ?_); simp [upd, hc, bne])
      | ((with_reducible refine CallK.pure (l2) (Wks.refl _) ?_); simp [upd, hc, bne])
      | ((with_reducible refine CallK.pure (l4) (Wks.refl _) ?_); simp [upd, hc, bne])
      | (refine Tri.exit ?_; simp [upd, hc, bne]; first | (rename ∀ st, Tri _ _ _ st _ → _ => hK; first | (apply hK; clear hK) | (clear hK; rename ∀ st, Tri _ _ _ st _ → _ => hK; first | (apply hK; clear hK) | (clear hK; rename ∀ st, Tri _ _ _ st _ → _ => hK; first | (apply hK; clear hK) | (clear hK; rename ∀ st, Tri _ _ _ st _ → _ => hK; first | (apply hK; clear hK) | (clear hK; rename ∀ st, Tri _ _ _ st _ → _ => hK; first | (apply hK; clear hK) | (clear hK; rename ∀ st, Tri _ _ _ st _ → _ => hK; apply hK; clear hK)))))) | skip)
      | (intro β)
      | (rename ∀ st, Tri _ _ _ st _ → _ => hK; apply hK; clear hK))
    refine Tri.ret ⟨_, rfl, ?_⟩
    simp [upd]
    exact Wk.refl _
  have hc0 : check r = 0 := by simpa using hc
  have l3 := losses_does r flow frame frm to (by omega)
  have l5 := attempts_does2 r flow frame (by omega)
  have hlo : losses r flow frame frm to = lg [] (onL frm to (attsOf r flow frame)) := by unfold losses; exact lossGo_lg ..
  have hmem : ∀ a ∈ attsOf r flow frame, a.flow = flow ∧ a.frame = frame := by
    intro a ha
    unfold attsOf at ha
    have := (List.mem_filter.1 ha).2
    simpa using this
  have hal : (attsOf r flow frame).length ≤ 150 := by
    have : (attsOf r flow frame).length ≤ r.atts.length := by unfold attsOf; exact List.length_filter_le ..
    omega
  rw [hlo] at l3
  generalize attsOf r flow frame = ats at *
  simp only [recC] at l1 l2 l3 l4 l5 ⊢
  repeat (first
    | (refine Tri.seq fun K hK => ?_)
    | (refine Tri.region ?_; simp [upd, hc, bne])
    | (refine Tri.draw (by kernel_rfl) (by kernel_rfl) ?_; simp [upd, hc, bne])
    | (refine Tri.cond_true ?_ ?_; (focus simp [upd, hc, bne]; done))
    | (refine Tri.cond_false ?_ ?_; (focus simp [upd, hc, bne]; done))
    | (refine Tri.skip ?_; simp only [thenS, blockS])
    | (refine Tri.block_seq ?_)
    | (refine Tri.block_region ?_)
    | (refine Tri.block_cond ?_)
    | ((with_reducible refine CallK.pure (l0) (Wks.refl _) ?_); simp [upd, hc, bne])
    | ((with_reducible refine CallK.pure (l1) (Wks.refl _) ?_); simp [upd, hc, bne])
    | ((with_reducible refine CallK.pure (l2) (Wks.refl _) ?_); simp [upd, hc, bne])
    | ((with_reducible refine CallK.pure (l4) (Wks.refl _) ?_); simp [upd, hc, bne])
    | ((with_reducible refine CallK.pure (l5) (Wks.refl _) ?_); simp [upd, hc, bne])
    | (refine Tri.exit ?_; simp [upd, hc, bne]; first | (rename ∀ st, Tri _ _ _ st _ → _ => hK; first | (apply hK; clear hK) | (clear hK; rename ∀ st, Tri _ _ _ st _ → _ => hK; first | (apply hK; clear hK) | (clear hK; rename ∀ st, Tri _ _ _ st _ → _ => hK; first | (apply hK; clear hK) | (clear hK; rename ∀ st, Tri _ _ _ st _ → _ => hK; first | (apply hK; clear hK) | (clear hK; rename ∀ st, Tri _ _ _ st _ → _ => hK; first | (apply hK; clear hK) | (clear hK; rename ∀ st, Tri _ _ _ st _ → _ => hK; apply hK; clear hK)))))) | skip)
    | (intro β)
    | (rename ∀ st, Tri _ _ _ st _ → _ => hK; apply hK; clear hK))
  refine Tri.range 43 42 44 74 160 rfl rfl ats.length (UInv1 r flow frame frm to ats ats.isEmpty) (by simp) (by omega) ?_ rfl (by simp [upd]) (by simp [upd]) ?_ ?_ ?_
  · rintro k st t v ht ⟨b5, G, h, h41, hG⟩
    refine ⟨b5, G, h.put t v (by omega), ?_, hG.put _ _⟩
    rcases ht with rfl | rfl | rfl <;> simpa [upd] using h41
  · exact ⟨_, .sl true 0 none [], ⟨rfl, by simp [upd], by simp [upd], by simp [upd], by simp [upd], by simp [upd] <;> exact rfl, by simp [upd] <;> exact rfl, by simp [upd]⟩, by simp [upd], .inl ⟨rfl, _, _, rfl⟩⟩
  · rintro k st hk ⟨b5, G, ⟨-, s1, s2, s3, s4, s5, x5, s11⟩, h41, hG⟩ hn h43 h42
    have ht := onL_take frm to ats k hk
    have hle := onL_le frm to (ats.take k)
    rw [List.length_take] at hle
    obtain ⟨m1, m2⟩ := hmem ats[k] (List.getElem_mem hk)
    have g1 : (ats[k].flow == flow) = true := by simp [m1]
    have g2 : (ats[k].frame == frame) = true := by simp [m2]
    by_cases hon : ats[k].frm = frm ∧ ats[k].to = to
    case neg =>
      rw [if_neg hon, List.append_nil] at ht
      cases g3 : (ats[k].frm == frm)
      case false =>
        repeat (first
          | (refine Tri.seq fun K hK => ?_)
          | (refine Tri.region ?_; simp [upd, hn, s1, s2, s3, s4, s5, x5, s11, h41, h43, h42, hk, g1, g2, g3, bne])
          | (refine Tri.draw (by kernel_rfl) (by kernel_rfl) ?_; simp [upd, hn, s1, s2, s3, s4, s5, x5, s11, h41, h43, h42, hk, g1, g2, g3, bne])
          | (refine Tri.cond_true ?_ ?_; (focus simp [upd, hn, s1, s2, s3, s4, s5, x5, s11, h41, h43, h42, hk, g1, g2, g3, bne]; done))
          | (refine Tri.cond_false ?_ ?_; (focus simp [upd, hn, s1, s2, s3, s4, s5, x5, s11, h41, h43, h42, hk, g1, g2, g3, bne]; done))
          | (refine Tri.skip ?_; simp only [thenS, blockS])
          | (refine Tri.block_seq ?_)
          | (refine Tri.block_region ?_)
          | (refine Tri.block_cond ?_)
          | (refine Tri.exit ?_; simp [upd, hn, s1, s2, s3, s4, s5, x5, s11, h41, h43, h42, hk, g1, g2, g3, bne]; first | (rename ∀ st, Tri _ _ _ st _ → _ => hK; first | (apply hK; clear hK) | (clear hK; rename ∀ st, Tri _ _ _ st _ → _ => hK; first | (apply hK; clear hK) | (clear hK; rename ∀ st, Tri _ _ _ st _ → _ => hK; first | (apply hK; clear hK) | (clear hK; rename ∀ st, Tri _ _ _ st _ → _ => hK; first | (apply hK; clear hK) | (clear hK; rename ∀ st, Tri _ _ _ st _ → _ => hK; first | (apply hK; clear hK) | (clear hK; rename ∀ st, Tri _ _ _ st _ → _ => hK; apply hK; clear hK)))))) | skip)
          | (intro β)
          | (rename ∀ st, Tri _ _ _ st _ → _ => hK; apply hK; clear hK))
        try simp [upd, h43, h42]
        exact ⟨b5, G, ⟨rfl, by simpa [upd] using s1, by simpa [upd] using s2, by simpa [upd] using s3, by simpa [upd] using s4, by simpa [upd] using s5, by simpa [upd] using x5, by simp [upd, s11]⟩, by simpa [upd] using h41, by simpa [GC, ht] using hG⟩
      have g4 : (ats[k].to == to) = false := by
        cases h : (ats[k].to == to)
        · rfl
        · exact absurd ⟨by simpa using g3, by simpa using h⟩ hon
      repeat (first
        | (refine Tri.seq fun K hK => ?_)
        | (refine Tri.region ?_; simp [upd, hn, s1, s2, s3, s4, s5, x5, s11, h41, h43, h42, hk, g1, g2, g3, g4, bne])
        | (refine Tri.draw (by kernel_rfl) (by kernel_rfl) ?_; simp [upd, hn, s1, s2, s3, s4, s5, x5, s11, h41, h43, h42, hk, g1, g2, g3, g4, bne])
        | (refine Tri.cond_true ?_ ?_; (focus simp [upd, hn, s1, s2, s3, s4, s5, x5, s11, h41, h43, h42, hk, g1, g2, g3, g4, bne]; done))
        | (refine Tri.cond_false ?_ ?_; (focus simp [upd, hn, s1, s2, s3, s4, s5, x5, s11, h41, h43, h42, hk, g1, g2, g3, g4, bne]; done))
        | (refine Tri.skip ?_; simp only [thenS, blockS])
        | (refine Tri.block_seq ?_)
        | (refine Tri.block_region ?_)
        | (refine Tri.block_cond ?_)
        | (refine Tri.exit ?_; simp [upd, hn, s1, s2, s3, s4, s5, x5, s11, h41, h43, h42, hk, g1, g2, g3, g4, bne]; first | (rename ∀ st, Tri _ _ _ st _ → _ => hK; first | (apply hK; clear hK) | (clear hK; rename ∀ st, Tri _ _ _ st _ → _ => hK; first | (apply hK; clear hK) | (clear hK; rename ∀ st, Tri _ _ _ st _ → _ => hK; first | (apply hK; clear hK) | (clear hK; rename ∀ st, Tri _ _ _ st _ → _ => hK; first | (apply hK; clear hK) | (clear hK; rename ∀ st, Tri _ _ _ st _ → _ => hK; first | (apply hK; clear hK) | (clear hK; rename ∀ st, Tri _ _ _ st _ → _ => hK; apply hK; clear hK)))))) | skip)
        | (intro β)
        | (rename ∀ st, Tri _ _ _ st _ → _ => hK; apply hK; clear hK))
      try simp [upd, h43, h42]
      exact ⟨b5, G, ⟨rfl, by simpa [upd] using s1, by simpa [upd] using s2, by simpa [upd] using s3, by simpa [upd] using s4, by simpa [upd] using s5, by simpa [upd] using x5, by simp [upd, s11]⟩, by simpa [upd] using h41, by simpa [GC, ht] using hG⟩
    rw [if_pos hon] at ht
    have g3 : (ats[k].frm == frm) = true := by simp [hon.1]
    have g4 : (ats[k].to == to) = true := by simp [hon.2]
    generalize onL frm to (ats.take k) = acc at *
    rcases hG with ⟨hnil, k0, own, rfl⟩ | ⟨b, hne, rfl, hrw⟩
    · have hacc : acc = [] := by simpa using hnil
      subst hacc
      repeat (first
        | (refine Tri.seq fun K hK => ?_)
        | (refine Tri.region ?_; simp [upd, hn, s1, s2, s3, s4, s5, x5, s11, h41, h43, h42, hk, g1, g2, g3, g4, bne])
        | (refine Tri.draw (by kernel_rfl) (by kernel_rfl) ?_; simp [upd, hn, s1, s2, s3, s4, s5, x5, s11, h41, h43, h42, hk, g1, g2, g3, g4, bne])
        | (refine Tri.cond_true ?_ ?_; (focus simp [upd, hn, s1, s2, s3, s4, s5, x5, s11, h41, h43, h42, hk, g1, g2, g3, g4, bne]; done))
        | (refine Tri.cond_false ?_ ?_; (focus simp [upd, hn, s1, s2, s3, s4, s5, x5, s11, h41, h43, h42, hk, g1, g2, g3, g4, bne]; done))
        | (refine Tri.skip ?_; simp only [thenS, blockS])
        | (refine Tri.block_seq ?_)
        | (refine Tri.block_region ?_)
        | (refine Tri.block_cond ?_)
        | (refine Tri.exit ?_; simp [upd, hn, s1, s2, s3, s4, s5, x5, s11, h41, h43, h42, hk, g1, g2, g3, g4, bne]; first | (rename ∀ st, Tri _ _ _ st _ → _ => hK; first | (apply hK; clear hK) | (clear hK; rename ∀ st, Tri _ _ _ st _ → _ => hK; first | (apply hK; clear hK) | (clear hK; rename ∀ st, Tri _ _ _ st _ → _ => hK; first | (apply hK; clear hK) | (clear hK; rename ∀ st, Tri _ _ _ st _ → _ => hK; first | (apply hK; clear hK) | (clear hK; rename ∀ st, Tri _ _ _ st _ → _ => hK; first | (apply hK; clear hK) | (clear hK; rename ∀ st, Tri _ _ _ st _ → _ => hK; apply hK; clear hK)))))) | skip)
        | (intro β)
        | (rename ∀ st, Tri _ _ _ st _ → _ => hK; apply hK; clear hK))
      try simp [upd, h43, h42]
      exact ⟨b5, .sl false 8 (some (73, β)) ([ats[k]].map attC), ⟨rfl, by simpa [upd] using s1, by simpa [upd] using s2, by simpa [upd] using s3, by simpa [upd] using s4, by simpa [upd] using s5, by simpa [upd] using x5, by simp [upd, s11]⟩, by simpa [upd] using h41, .inr ⟨β, by simp [ht], by simp [ht], by simp [ht, upd]⟩⟩
    · have hb : (acc.length + 1) * 64 ≤ 140737488355328 := by omega
      rw [List.length_map] at hrw
      repeat (first
        | (refine Tri.seq fun K hK => ?_)
        | (refine Tri.region ?_; simp [upd, hn, s1, s2, s3, s4, s5, x5, s11, h41, h43, h42, hk, g1, g2, g3, g4, hb, hrw, bne])
        | (refine Tri.draw (by kernel_rfl) (by kernel_rfl) ?_; simp [upd, hn, s1, s2, s3, s4, s5, x5, s11, h41, h43, h42, hk, g1, g2, g3, g4, hb, hrw, bne])
        | (refine Tri.cond_true ?_ ?_; (focus simp [upd, hn, s1, s2, s3, s4, s5, x5, s11, h41, h43, h42, hk, g1, g2, g3, g4, hb, hrw, bne]; done))
        | (refine Tri.cond_false ?_ ?_; (focus simp [upd, hn, s1, s2, s3, s4, s5, x5, s11, h41, h43, h42, hk, g1, g2, g3, g4, hb, hrw, bne]; done))
        | (refine Tri.skip ?_; simp only [thenS, blockS])
        | (refine Tri.block_seq ?_)
        | (refine Tri.block_region ?_)
        | (refine Tri.block_cond ?_)
        | (refine Tri.exit ?_; simp [upd, hn, s1, s2, s3, s4, s5, x5, s11, h41, h43, h42, hk, g1, g2, g3, g4, hb, hrw, bne]; first | (rename ∀ st, Tri _ _ _ st _ → _ => hK; first | (apply hK; clear hK) | (clear hK; rename ∀ st, Tri _ _ _ st _ → _ => hK; first | (apply hK; clear hK) | (clear hK; rename ∀ st, Tri _ _ _ st _ → _ => hK; first | (apply hK; clear hK) | (clear hK; rename ∀ st, Tri _ _ _ st _ → _ => hK; first | (apply hK; clear hK) | (clear hK; rename ∀ st, Tri _ _ _ st _ → _ => hK; first | (apply hK; clear hK) | (clear hK; rename ∀ st, Tri _ _ _ st _ → _ => hK; apply hK; clear hK)))))) | skip)
        | (intro β)
        | (rename ∀ st, Tri _ _ _ st _ → _ => hK; apply hK; clear hK))
      try simp [upd, h43, h42]
      exact ⟨b5, .sl false 8 (some (73, β)) ((acc ++ [ats[k]]).map attC), ⟨rfl, by simpa [upd] using s1, by simpa [upd] using s2, by simpa [upd] using s3, by simpa [upd] using s4, by simpa [upd] using s5, by simpa [upd] using x5, by simp [upd, s11]⟩, by simpa [upd] using h41, .inr ⟨β, by simp [ht], by simp [ht], by simp [ht, upd]⟩⟩
  · rintro st ⟨b5, G, ⟨-, s1, s2, s3, s4, s5, x5, s11⟩, h41, hG⟩ hn
    rw [List.take_length] at hG
    have hll : (onL frm to ats).length ≤ 150 := by have := onL_le frm to ats; omega
    generalize onL frm to ats = l at *
    obtain ⟨nl, n, own, rfl, hl8⟩ : ∃ nl n own, G = .sl nl n own (l.map attC) ∧ (l = [] ∨ n = 8) := by
      rcases hG with ⟨hnil, k0, own, rfl⟩ | ⟨b, hne, rfl, hrw⟩
      · have : l = [] := by simpa using hnil
        subst this; exact ⟨_, _, _, rfl, .inl rfl⟩
      · exact ⟨_, _, _, rfl, .inr rfl⟩
    clear hG
    have q1 := lg_len l []
    have q2 := lg_lens l []
    have q3 := lg_ne l []
    generalize hruns : lg [] l = runs at *
    apply hK
    repeat (first
      | (refine Tri.seq fun K hK => ?_)
      | (refine Tri.region ?_; simp [upd, hn, s1, s2, s3, s4, s5, x5, s11])
      | (refine Tri.draw (by kernel_rfl) (by kernel_rfl) ?_; simp [upd, hn, s1, s2, s3, s4, s5, x5, s11])
      | (refine Tri.cond_true ?_ ?_; (focus simp [upd, hn, s1, s2, s3, s4, s5, x5, s11]; done))
      | (refine Tri.cond_false ?_ ?_; (focus simp [upd, hn, s1, s2, s3, s4, s5, x5, s11]; done))
      | (refine Tri.skip ?_; simp only [thenS, blockS])
      | (refine Tri.block_seq ?_)
      | (refine Tri.block_region ?_)
      | (refine Tri.block_cond ?_)
      | ((with_reducible refine CallK.pure (l2) (Wks.refl _) ?_); simp [upd, hn, s1, s2, s3, s4, s5, x5, s11])
      | ((with_reducible refine CallK.pure (l3) (Wks.refl _) ?_); simp [upd, hn, s1, s2, s3, s4, s5, x5, s11])
      | (refine Tri.exit ?_; simp [upd, hn, s1, s2, s3, s4, s5, x5, s11]; first | (rename ∀ st, Tri _ _ _ st _ → _ => hK; first | (apply hK; clear hK) | (clear hK; rename ∀ st, Tri _ _ _ st _ → _ => hK; first | (apply hK; clear hK) | (clear hK; rename ∀ st, Tri _ _ _ st _ → _ => hK; first | (apply hK; clear hK) | (clear hK; rename ∀ st, Tri _ _ _ st _ → _ => hK; first | (apply hK; clear hK) | (clear hK; rename ∀ st, Tri _ _ _ st _ → _ => hK; first | (apply hK; clear hK) | (clear hK; rename ∀ st, Tri _ _ _ st _ → _ => hK; apply hK; clear hK)))))) | skip)
      | (intro β)
      | (rename ∀ st, Tri _ _ _ st _ → _ => hK; apply hK; clear hK))
    refine Tri.range 84 83 85 144 160 rfl rfl runs.length (WInv2 l runs.isEmpty runs) (by simp) (by omega) ?_ rfl (by simp [upd]) (by simp [upd, runsC]) ?_ ?_ ?_
    · rintro k st t v ht ⟨nl, n, own, at', ⟨hn, s11, hl8, s82, s15, ha, hg, hh⟩⟩
      rcases ht with rfl | rfl | rfl <;> exact ⟨nl, n, own, at', ⟨hn, by simpa [upd] using s11, hl8, by simpa [upd] using s82, by simpa [upd] using s15, ha, hg, hh⟩⟩
    · exact ⟨nl, n, own, 0, ⟨rfl, by simp [upd, s11], hl8, by simp [upd], by simp [upd], by omega, by simpa using hruns, by omega⟩⟩
    · rintro k st hk ⟨nl, n, own, at', ⟨-, s11, hl8, s82, s15, ha, hg, hh⟩⟩ hn h84 h83
      have hd : runs.drop k = runs[k] :: runs.drop (k + 1) := List.drop_eq_getElem_cons hk
      rw [hd] at hg
      have hmk := List.getElem_mem hk
      have r1 := q2 _ hmk
      have r2 := q3 _ hmk
      generalize he : runs[k] = run at *
      simp only [List.length_nil, Nat.zero_add] at r1
      have hl0 : l ≠ [] := by
        rintro rfl
        simp [lg] at hg
      have h8 : n = 8 := hl8.resolve_left hl0
      subst h8
      repeat (first
        | (refine Tri.seq fun K hK => ?_)
        | (refine Tri.region ?_; simp [upd, hn, s11, s82, s15, h84, h83, hk, he, r2, runC, runsC, I1])
        | (refine Tri.draw (by kernel_rfl) (by kernel_rfl) ?_; simp [upd, hn, s11, s82, s15, h84, h83, hk, he, r2, runC, runsC, I1])
        | (refine Tri.cond_true ?_ ?_; (focus simp [upd, hn, s11, s82, s15, h84, h83, hk, he, r2, runC, runsC, I1]; done))
        | (refine Tri.cond_false ?_ ?_; (focus simp [upd, hn, s11, s82, s15, h84, h83, hk, he, r2, runC, runsC, I1]; done))
        | (refine Tri.skip ?_; simp only [thenS, blockS])
        | (refine Tri.block_seq ?_)
        | (refine Tri.block_region ?_)
        | (refine Tri.block_cond ?_)
        | (refine Tri.exit ?_; simp [upd, hn, s11, s82, s15, h84, h83, hk, he, r2, runC, runsC, I1]; first | (rename ∀ st, Tri _ _ _ st _ → _ => hK; first | (apply hK; clear hK) | (clear hK; rename ∀ st, Tri _ _ _ st _ → _ => hK; first | (apply hK; clear hK) | (clear hK; rename ∀ st, Tri _ _ _ st _ → _ => hK; first | (apply hK; clear hK) | (clear hK; rename ∀ st, Tri _ _ _ st _ → _ => hK; first | (apply hK; clear hK) | (clear hK; rename ∀ st, Tri _ _ _ st _ → _ => hK; first | (apply hK; clear hK) | (clear hK; rename ∀ st, Tri _ _ _ st _ → _ => hK; apply hK; clear hK)))))) | skip)
        | (intro β)
        | (rename ∀ st, Tri _ _ _ st _ → _ => hK; apply hK; clear hK))
      rename ∀ st, Tri _ _ _ st _ → _ => hK
      have fin := fun (st : St) (h : WEnd3 l runs.isEmpty runs k at' run (runs.drop (k + 1)) 8 nl own st) => hK st ?tail
      case tail =>
        obtain ⟨p, c, hp, hn, s11, s82, s84, s83, s16, s17, s15, s18, hg, hpl, hna⟩ := h
        clear hK
        by_cases hk0 : 0 < k
        · have hc0 : ¬ c = 0 := by
            rintro rfl
            rw [Nat.add_zero] at hp
            subst hp
            exact hna (hh hk0)
          repeat (first
            | (refine Tri.seq fun K hK => ?_)
            | (refine Tri.region ?_; simp [upd, hn, s11, s82, s84, s83, s16, s17, s15, s18, hk0, hc0, runC, I1])
            | (refine Tri.draw (by kernel_rfl) (by kernel_rfl) ?_; simp [upd, hn, s11, s82, s84, s83, s16, s17, s15, s18, hk0, hc0, runC, I1])
            | (refine Tri.cond_true ?_ ?_; (focus simp [upd, hn, s11, s82, s84, s83, s16, s17, s15, s18, hk0, hc0, runC, I1]; done))
            | (refine Tri.cond_false ?_ ?_; (focus simp [upd, hn, s11, s82, s84, s83, s16, s17, s15, s18, hk0, hc0, runC, I1]; done))
            | (refine Tri.skip ?_; simp only [thenS, blockS])
            | (refine Tri.block_seq ?_)
            | (refine Tri.block_region ?_)
            | (refine Tri.block_cond ?_)
            | (refine Tri.exit ?_; simp [upd, hn, s11, s82, s84, s83, s16, s17, s15, s18, hk0, hc0, runC, I1]; first | (rename ∀ st, Tri _ _ _ st _ → _ => hK; first | (apply hK; clear hK) | (clear hK; rename ∀ st, Tri _ _ _ st _ → _ => hK; first | (apply hK; clear hK) | (clear hK; rename ∀ st, Tri _ _ _ st _ → _ => hK; first | (apply hK; clear hK) | (clear hK; rename ∀ st, Tri _ _ _ st _ → _ => hK; first | (apply hK; clear hK) | (clear hK; rename ∀ st, Tri _ _ _ st _ → _ => hK; first | (apply hK; clear hK) | (clear hK; rename ∀ st, Tri _ _ _ st _ → _ => hK; apply hK; clear hK)))))) | skip)
            | (intro β)
            | (rename ∀ st, Tri _ _ _ st _ → _ => hK; apply hK; clear hK))
          refine Tri.range 116 115 117 143 160 rfl rfl run.length (WInv4 l runs.isEmpty runs k run (runs.drop (k + 1)) 8 nl own) (by simp) (by omega) ?_ rfl (by simp [upd]) (by simp [upd, I1]) ?_ ?_ ?_
          · rintro j st t v ht ⟨p, hpl, a11, a82, a84, a83, a114, a15, hg, h0⟩
            rcases ht with rfl | rfl | rfl <;> exact ⟨p, hpl, by simpa [upd] using a11, by simpa [upd] using a82, by simpa [upd] using a84, by simpa [upd] using a83, by simpa [upd] using a114, by simpa [upd] using a15, hg, h0⟩
          · exact ⟨p, hpl, by simp [upd, s11], by simp [upd, s82], by simp [upd, s84], by simp [upd, s83], by simp [upd, runC, I1], by simp [upd, s15], by simpa using hg, fun _ => hna⟩
          · clear hn s11 s82 s84 s83 s16 s17 s15 s18 hg hpl hna hp
            rintro j st hj ⟨p, hpl, a11, a82, a84, a83, a114, a15, hg, h0⟩ hn h116 h115
            obtain ⟨a, d', e1, e2, e3, e4⟩ := lg_next hj hg h0
            have hpl2 : p < l.length := by
              apply Nat.lt_of_not_le
              intro hle
              rw [List.drop_of_length_le hle] at e1
              cases e1
            rw [List.drop_eq_getElem_cons hpl2] at e1
            obtain ⟨rfl, rfl⟩ := List.cons.inj e1
            have g1 : (l[p].slot == run[j]) = true := by simp [e3]
            have hpl3 : ¬ l.length ≤ p := by omega
            have g2 : (l[p].out == 1) = false := by simpa using e2
            have hw : IntKind.i64.wrap ((p : Int) + 1) = (p : Int) + 1 := wrap_i64 (by omega) (by omega)
            repeat (first
              | (refine Tri.seq fun K hK => ?_)
              | (refine Tri.region ?_; simp [upd, hn, a11, a82, a84, a83, a114, a15, h116, h115, hj, hpl2, hpl3, g1, g2, hw, bne, runC, I1])
              | (refine Tri.draw (by kernel_rfl) (by kernel_rfl) ?_; simp [upd, hn, a11, a82, a84, a83, a114, a15, h116, h115, hj, hpl2, hpl3, g1, g2, hw, bne, runC, I1])
              | (refine Tri.cond_true ?_ ?_; (focus simp [upd, hn, a11, a82, a84, a83, a114, a15, h116, h115, hj, hpl2, hpl3, g1, g2, hw, bne, runC, I1]; done))
              | (refine Tri.cond_false ?_ ?_; (focus simp [upd, hn, a11, a82, a84, a83, a114, a15, h116, h115, hj, hpl2, hpl3, g1, g2, hw, bne, runC, I1]; done))
              | (refine Tri.skip ?_; simp only [thenS, blockS])
              | (refine Tri.block_seq ?_)
              | (refine Tri.block_region ?_)
              | (refine Tri.block_cond ?_)
              | (refine Tri.exit ?_; simp [upd, hn, a11, a82, a84, a83, a114, a15, h116, h115, hj, hpl2, hpl3, g1, g2, hw, bne, runC, I1]; first | (rename ∀ st, Tri _ _ _ st _ → _ => hK; first | (apply hK; clear hK) | (clear hK; rename ∀ st, Tri _ _ _ st _ → _ => hK; first | (apply hK; clear hK) | (clear hK; rename ∀ st, Tri _ _ _ st _ → _ => hK; first | (apply hK; clear hK) | (clear hK; rename ∀ st, Tri _ _ _ st _ → _ => hK; first | (apply hK; clear hK) | (clear hK; rename ∀ st, Tri _ _ _ st _ → _ => hK; first | (apply hK; clear hK) | (clear hK; rename ∀ st, Tri _ _ _ st _ → _ => hK; apply hK; clear hK)))))) | skip)
              | (intro β)
              | (rename ∀ st, Tri _ _ _ st _ → _ => hK; apply hK; clear hK))
            try simp [upd, h116, h115]
            exact ⟨p + 1, by omega, by simp [upd, a11], by simp [upd, a82], by simp [upd, a84], by simp [upd, a83], by simp [upd, a114], by simp [upd], e4, by omega⟩
          · rintro st ⟨p, hpl, a11, a82, a84, a83, a114, a15, hg, h0⟩ hn
            rw [List.take_length] at hg
            obtain ⟨f1, f2⟩ := lg_end r2 hg
            exact ⟨⟨nl, 8, own, p, ⟨hn, a11, .inr rfl, a82, a15, hpl, f1, fun _ => f2⟩⟩, hn, a84, a83⟩
        · have hk1 : k = 0 := by omega
          repeat (first
            | (refine Tri.seq fun K hK => ?_)
            | (refine Tri.region ?_; simp [upd, hn, s11, s82, s84, s83, s16, s17, s15, s18, hk0, hk1, runC, I1])
            | (refine Tri.draw (by kernel_rfl) (by kernel_rfl) ?_; simp [upd, hn, s11, s82, s84, s83, s16, s17, s15, s18, hk0, hk1, runC, I1])
            | (refine Tri.cond_true ?_ ?_; (focus simp [upd, hn, s11, s82, s84, s83, s16, s17, s15, s18, hk0, hk1, runC, I1]; done))
            | (refine Tri.cond_false ?_ ?_; (focus simp [upd, hn, s11, s82, s84, s83, s16, s17, s15, s18, hk0, hk1, runC, I1]; done))
            | (refine Tri.skip ?_; simp only [thenS, blockS])
            | (refine Tri.block_seq ?_)
            | (refine Tri.block_region ?_)
            | (refine Tri.block_cond ?_)
            | (refine Tri.exit ?_; simp [upd, hn, s11, s82, s84, s83, s16, s17, s15, s18, hk0, hk1, runC, I1]; first | (rename ∀ st, Tri _ _ _ st _ → _ => hK; first | (apply hK; clear hK) | (clear hK; rename ∀ st, Tri _ _ _ st _ → _ => hK; first | (apply hK; clear hK) | (clear hK; rename ∀ st, Tri _ _ _ st _ → _ => hK; first | (apply hK; clear hK) | (clear hK; rename ∀ st, Tri _ _ _ st _ → _ => hK; first | (apply hK; clear hK) | (clear hK; rename ∀ st, Tri _ _ _ st _ → _ => hK; first | (apply hK; clear hK) | (clear hK; rename ∀ st, Tri _ _ _ st _ → _ => hK; apply hK; clear hK)))))) | skip)
            | (intro β)
            | (rename ∀ st, Tri _ _ _ st _ → _ => hK; apply hK; clear hK))
          refine Tri.range 116 115 117 143 160 rfl rfl run.length (WInv4 l runs.isEmpty runs k run (runs.drop (k + 1)) 8 nl own) (by simp) (by omega) ?_ rfl (by simp [upd]) (by simp [upd, I1]) ?_ ?_ ?_
          · rintro j st t v ht ⟨p, hpl, a11, a82, a84, a83, a114, a15, hg, h0⟩
            rcases ht with rfl | rfl | rfl <;> exact ⟨p, hpl, by simpa [upd] using a11, by simpa [upd] using a82, by simpa [upd] using a84, by simpa [upd] using a83, by simpa [upd] using a114, by simpa [upd] using a15, hg, h0⟩
          · exact ⟨p, hpl, by simp [upd, s11], by simp [upd, s82], by simp [upd, s84], by simp [upd, s83], by simp [upd, runC, I1], by simp [upd, s15], by simpa using hg, fun _ => hna⟩
          · clear hn s11 s82 s84 s83 s16 s17 s15 s18 hg hpl hna hp
            rintro j st hj ⟨p, hpl, a11, a82, a84, a83, a114, a15, hg, h0⟩ hn h116 h115
            obtain ⟨a, d', e1, e2, e3, e4⟩ := lg_next hj hg h0
            have hpl2 : p < l.length := by
              apply Nat.lt_of_not_le
              intro hle
              rw [List.drop_of_length_le hle] at e1
              cases e1
            rw [List.drop_eq_getElem_cons hpl2] at e1
            obtain ⟨rfl, rfl⟩ := List.cons.inj e1
            have g1 : (l[p].slot == run[j]) = true := by simp [e3]
            have hpl3 : ¬ l.length ≤ p := by omega
            have g2 : (l[p].out == 1) = false := by simpa using e2
            have hw : IntKind.i64.wrap ((p : Int) + 1) = (p : Int) + 1 := wrap_i64 (by omega) (by omega)
            repeat (first
              | (refine Tri.seq fun K hK => ?_)
              | (refine Tri.region ?_; simp [upd, hn, a11, a82, a84, a83, a114, a15, h116, h115, hj, hpl2, hpl3, g1, g2, hw, bne, runC, I1])
              | (refine Tri.draw (by kernel_rfl) (by kernel_rfl) ?_; simp [upd, hn, a11, a82, a84, a83, a114, a15, h116, h115, hj, hpl2, hpl3, g1, g2, hw, bne, runC, I1])
              | (refine Tri.cond_true ?_ ?_; (focus simp [upd, hn, a11, a82, a84, a83, a114, a15, h116, h115, hj, hpl2, hpl3, g1, g2, hw, bne, runC, I1]; done))
              | (refine Tri.cond_false ?_ ?_; (focus simp [upd, hn, a11, a82, a84, a83, a114, a15, h116, h115, hj, hpl2, hpl3, g1, g2, hw, bne, runC, I1]; done))
              | (refine Tri.skip ?_; simp only [thenS, blockS])
              | (refine Tri.block_seq ?_)
              | (refine Tri.block_region ?_)
              | (refine Tri.block_cond ?_)
              | (refine Tri.exit ?_; simp [upd, hn, a11, a82, a84, a83, a114, a15, h116, h115, hj, hpl2, hpl3, g1, g2, hw, bne, runC, I1]; first | (rename ∀ st, Tri _ _ _ st _ → _ => hK; first | (apply hK; clear hK) | (clear hK; rename ∀ st, Tri _ _ _ st _ → _ => hK; first | (apply hK; clear hK) | (clear hK; rename ∀ st, Tri _ _ _ st _ → _ => hK; first | (apply hK; clear hK) | (clear hK; rename ∀ st, Tri _ _ _ st _ → _ => hK; first | (apply hK; clear hK) | (clear hK; rename ∀ st, Tri _ _ _ st _ → _ => hK; first | (apply hK; clear hK) | (clear hK; rename ∀ st, Tri _ _ _ st _ → _ => hK; apply hK; clear hK)))))) | skip)
              | (intro β)
              | (rename ∀ st, Tri _ _ _ st _ → _ => hK; apply hK; clear hK))
            try simp [upd, h116, h115]
            exact ⟨p + 1, by omega, by simp [upd, a11], by simp [upd, a82], by simp [upd, a84], by simp [upd, a83], by simp [upd, a114], by simp [upd], e4, by omega⟩
          · rintro st ⟨p, hpl, a11, a82, a84, a83, a114, a15, hg, h0⟩ hn
            rw [List.take_length] at hg
            obtain ⟨f1, f2⟩ := lg_end r2 hg
            exact ⟨⟨nl, 8, own, p, ⟨hn, a11, .inr rfl, a82, a15, hpl, f1, fun _ => f2⟩⟩, hn, a84, a83⟩
      clear hK
      refine Tri.block (Tri.loop (WInv3 l runs.isEmpty runs k at' run (runs.drop (k + 1)) 8 nl own) (l.length - at') ?_ ?_)
      · exact ⟨at', 0, by omega, by omega, rfl, by simp [upd, s11], by simp [upd, s82], by simp [upd, h84], by simp [upd, h83], by simp [upd], by simp [upd, runC, I1], by simp [upd, s15], by simp [upd], hg⟩
      · clear hn s11 s82 s15 h84 h83
        rintro m st ⟨p, c, hp, hm, hn, s11, s82, s84, s83, s16, s17, s15, s18, hg⟩
        by_cases hpl : p < l.length
        case neg =>
          rw [List.drop_of_length_le (by omega)] at hg
          simp [lg] at hg
        have hd2 : l.drop p = l[p] :: l.drop (p + 1) := List.drop_eq_getElem_cons hpl
        cases ho : (l[p].out == 1)
        case false =>
          repeat (first
            | (refine Tri.seq fun K hK => ?_)
            | (refine Tri.region ?_; simp [upd, hn, s11, s82, s84, s83, s16, s17, s15, s18, hpl, ho])
            | (refine Tri.draw (by kernel_rfl) (by kernel_rfl) ?_; simp [upd, hn, s11, s82, s84, s83, s16, s17, s15, s18, hpl, ho])
            | (refine Tri.cond_true ?_ ?_; (focus simp [upd, hn, s11, s82, s84, s83, s16, s17, s15, s18, hpl, ho]; done))
            | (refine Tri.cond_false ?_ ?_; (focus simp [upd, hn, s11, s82, s84, s83, s16, s17, s15, s18, hpl, ho]; done))
            | (refine Tri.skip ?_; simp only [thenS, blockS])
            | (refine Tri.block_seq ?_)
            | (refine Tri.block_region ?_)
            | (refine Tri.block_cond ?_)
            | (refine Tri.exit ?_; simp [upd, hn, s11, s82, s84, s83, s16, s17, s15, s18, hpl, ho]; first | (rename ∀ st, Tri _ _ _ st _ → _ => hK; first | (apply hK; clear hK) | (clear hK; rename ∀ st, Tri _ _ _ st _ → _ => hK; first | (apply hK; clear hK) | (clear hK; rename ∀ st, Tri _ _ _ st _ → _ => hK; first | (apply hK; clear hK) | (clear hK; rename ∀ st, Tri _ _ _ st _ → _ => hK; first | (apply hK; clear hK) | (clear hK; rename ∀ st, Tri _ _ _ st _ → _ => hK; first | (apply hK; clear hK) | (clear hK; rename ∀ st, Tri _ _ _ st _ → _ => hK; apply hK; clear hK)))))) | skip)
            | (intro β)
            | (rename ∀ st, Tri _ _ _ st _ → _ => hK; apply hK; clear hK))
          apply fin
          exact ⟨p, c, hp, rfl, by simp [upd, s11], by simp [upd, s82], by simp [upd, s84], by simp [upd, s83], by simp [upd, s16], by simp [upd, s17], by simp [upd, s15], by simp [upd, s18], hg, by omega, fun h => by have := h _ _ hd2; simp [this] at ho⟩
        rw [hd2, lg, if_pos (by simpa using ho), if_pos rfl] at hg
        have hw1 : IntKind.i64.wrap ((p : Int) + 1) = (p : Int) + 1 := wrap_i64 (by omega) (by omega)
        have hw2 : IntKind.i64.wrap ((c : Int) + 1) = (c : Int) + 1 := wrap_i64 (by omega) (by omega)
        repeat (first
          | (refine Tri.seq fun K hK => ?_)
          | (refine Tri.region ?_; simp [upd, hn, s11, s82, s84, s83, s16, s17, s15, s18, hpl, ho, hw1, hw2])
          | (refine Tri.draw (by kernel_rfl) (by kernel_rfl) ?_; simp [upd, hn, s11, s82, s84, s83, s16, s17, s15, s18, hpl, ho, hw1, hw2])
          | (refine Tri.cond_true ?_ ?_; (focus simp [upd, hn, s11, s82, s84, s83, s16, s17, s15, s18, hpl, ho, hw1, hw2]; done))
          | (refine Tri.cond_false ?_ ?_; (focus simp [upd, hn, s11, s82, s84, s83, s16, s17, s15, s18, hpl, ho, hw1, hw2]; done))
          | (refine Tri.skip ?_; simp only [thenS, blockS])
          | (refine Tri.block_seq ?_)
          | (refine Tri.block_region ?_)
          | (refine Tri.block_cond ?_)
          | (refine Tri.exit ?_; simp [upd, hn, s11, s82, s84, s83, s16, s17, s15, s18, hpl, ho, hw1, hw2]; first | (rename ∀ st, Tri _ _ _ st _ → _ => hK; first | (apply hK; clear hK) | (clear hK; rename ∀ st, Tri _ _ _ st _ → _ => hK; first | (apply hK; clear hK) | (clear hK; rename ∀ st, Tri _ _ _ st _ → _ => hK; first | (apply hK; clear hK) | (clear hK; rename ∀ st, Tri _ _ _ st _ → _ => hK; first | (apply hK; clear hK) | (clear hK; rename ∀ st, Tri _ _ _ st _ → _ => hK; first | (apply hK; clear hK) | (clear hK; rename ∀ st, Tri _ _ _ st _ → _ => hK; apply hK; clear hK)))))) | skip)
          | (intro β)
          | (rename ∀ st, Tri _ _ _ st _ → _ => hK; apply hK; clear hK))
        exact ⟨m - 1, by omega, p + 1, c + 1, by omega, by omega, rfl, by simp [upd, s11], by simp [upd, s82], by simp [upd, s84], by simp [upd, s83], by simp [upd, s16], by simp [upd, s17], by simp [upd], by simp [upd], hg⟩
    · rintro st ⟨nl, n, own, at', ⟨-, s11, hl8, s82, s15, ha, hg, hh⟩⟩ hn
      rw [List.drop_length] at hg
      have hack := lg_nil _ hg
      have hle : ¬ l.length < at' := by omega
      rename ∀ st, Tri _ _ _ st _ → _ => hK
      apply hK
      have fin : ∀ l2 : List Att, l2 = l.drop at' → ∀ a ∈ l2, a.out = 1 := fun l2 e => e ▸ hack
      rcases hl8 with rfl | rfl
      · have hat0 : at' = 0 := by simpa using ha
        subst hat0
        repeat (first
          | (refine Tri.seq fun K hK => ?_)
          | (refine Tri.region ?_; simp [upd, hn, s11, s82, s15])
          | (refine Tri.draw (by kernel_rfl) (by kernel_rfl) ?_; simp [upd, hn, s11, s82, s15])
          | (refine Tri.cond_true ?_ ?_; (focus simp [upd, hn, s11, s82, s15]; done))
          | (refine Tri.cond_false ?_ ?_; (focus simp [upd, hn, s11, s82, s15]; done))
          | (refine Tri.skip ?_; simp only [thenS, blockS])
          | (refine Tri.block_seq ?_)
          | (refine Tri.block_region ?_)
          | (refine Tri.block_cond ?_)
          | (refine Tri.exit ?_; simp [upd, hn, s11, s82, s15]; first | (rename ∀ st, Tri _ _ _ st _ → _ => hK; first | (apply hK; clear hK) | (clear hK; rename ∀ st, Tri _ _ _ st _ → _ => hK; first | (apply hK; clear hK) | (clear hK; rename ∀ st, Tri _ _ _ st _ → _ => hK; first | (apply hK; clear hK) | (clear hK; rename ∀ st, Tri _ _ _ st _ → _ => hK; first | (apply hK; clear hK) | (clear hK; rename ∀ st, Tri _ _ _ st _ → _ => hK; first | (apply hK; clear hK) | (clear hK; rename ∀ st, Tri _ _ _ st _ → _ => hK; apply hK; clear hK)))))) | skip)
          | (intro β)
          | (rename ∀ st, Tri _ _ _ st _ → _ => hK; apply hK; clear hK))
        rename ∀ st, Tri _ _ _ st _ → _ => hK
        generalize hl2 : ([] : List Att) = l2
        have hl2b : l2.length ≤ 150 := by rw [← hl2]; simp; try omega
        have g0 : ∀ a ∈ l2, a.out = 1 := by rw [← hl2]; first | exact fin _ rfl | simp
        refine Tri.range 152 151 153 159 160 rfl rfl l2.length (fun k st => st.sl 150 = .c (.sl nl 8 none (l2.map attC))) (by simp) (by omega) ?_ rfl (by simp [upd]) (by simp [upd, ← hl2]) ?_ ?_ ?_
        · rintro k st t v ht h
          rcases ht with rfl | rfl | rfl <;> simpa [upd] using h
        · simp [upd, ← hl2, List.map_drop, List.take_of_length_le]
        · rintro k st hk h hn h152 h151
          have g1 : (l2[k].out == 1) = true := by simp [g0 _ (List.getElem_mem hk)]
          repeat (first
            | (refine Tri.seq fun K hK => ?_)
            | (refine Tri.region ?_; simp [upd, hn, h, h152, h151, hk, g1, bne])
            | (refine Tri.draw (by kernel_rfl) (by kernel_rfl) ?_; simp [upd, hn, h, h152, h151, hk, g1, bne])
            | (refine Tri.cond_true ?_ ?_; (focus simp [upd, hn, h, h152, h151, hk, g1, bne]; done))
            | (refine Tri.cond_false ?_ ?_; (focus simp [upd, hn, h, h152, h151, hk, g1, bne]; done))
            | (refine Tri.skip ?_; simp only [thenS, blockS])
            | (refine Tri.block_seq ?_)
            | (refine Tri.block_region ?_)
            | (refine Tri.block_cond ?_)
            | (refine Tri.exit ?_; simp [upd, hn, h, h152, h151, hk, g1, bne]; first | (rename ∀ st, Tri _ _ _ st _ → _ => hK; first | (apply hK; clear hK) | (clear hK; rename ∀ st, Tri _ _ _ st _ → _ => hK; first | (apply hK; clear hK) | (clear hK; rename ∀ st, Tri _ _ _ st _ → _ => hK; first | (apply hK; clear hK) | (clear hK; rename ∀ st, Tri _ _ _ st _ → _ => hK; first | (apply hK; clear hK) | (clear hK; rename ∀ st, Tri _ _ _ st _ → _ => hK; first | (apply hK; clear hK) | (clear hK; rename ∀ st, Tri _ _ _ st _ → _ => hK; apply hK; clear hK)))))) | skip)
            | (intro β)
            | (rename ∀ st, Tri _ _ _ st _ → _ => hK; apply hK; clear hK))
          try simp [upd, h152, h151, h]
        · rintro st h hn
          apply hK
          repeat (first
            | (refine Tri.seq fun K hK => ?_)
            | (refine Tri.region ?_; simp [upd, hn])
            | (refine Tri.draw (by kernel_rfl) (by kernel_rfl) ?_; simp [upd, hn])
            | (refine Tri.cond_true ?_ ?_; (focus simp [upd, hn]; done))
            | (refine Tri.cond_false ?_ ?_; (focus simp [upd, hn]; done))
            | (refine Tri.skip ?_; simp only [thenS, blockS])
            | (refine Tri.block_seq ?_)
            | (refine Tri.block_region ?_)
            | (refine Tri.block_cond ?_)
            | (refine Tri.exit ?_; simp [upd, hn]; first | (rename ∀ st, Tri _ _ _ st _ → _ => hK; first | (apply hK; clear hK) | (clear hK; rename ∀ st, Tri _ _ _ st _ → _ => hK; first | (apply hK; clear hK) | (clear hK; rename ∀ st, Tri _ _ _ st _ → _ => hK; first | (apply hK; clear hK) | (clear hK; rename ∀ st, Tri _ _ _ st _ → _ => hK; first | (apply hK; clear hK) | (clear hK; rename ∀ st, Tri _ _ _ st _ → _ => hK; first | (apply hK; clear hK) | (clear hK; rename ∀ st, Tri _ _ _ st _ → _ => hK; apply hK; clear hK)))))) | skip)
            | (intro β)
            | (rename ∀ st, Tri _ _ _ st _ → _ => hK; apply hK; clear hK))
          refine Tri.ret ⟨_, rfl, ?_⟩
          simp [upd]
          exact Wk.refl _
      · repeat (first
          | (refine Tri.seq fun K hK => ?_)
          | (refine Tri.region ?_; simp [upd, hn, s11, s82, s15, ha, hle])
          | (refine Tri.draw (by kernel_rfl) (by kernel_rfl) ?_; simp [upd, hn, s11, s82, s15, ha, hle])
          | (refine Tri.cond_true ?_ ?_; (focus simp [upd, hn, s11, s82, s15, ha, hle]; done))
          | (refine Tri.cond_false ?_ ?_; (focus simp [upd, hn, s11, s82, s15, ha, hle]; done))
          | (refine Tri.skip ?_; simp only [thenS, blockS])
          | (refine Tri.block_seq ?_)
          | (refine Tri.block_region ?_)
          | (refine Tri.block_cond ?_)
          | (refine Tri.exit ?_; simp [upd, hn, s11, s82, s15, ha, hle]; first | (rename ∀ st, Tri _ _ _ st _ → _ => hK; first | (apply hK; clear hK) | (clear hK; rename ∀ st, Tri _ _ _ st _ → _ => hK; first | (apply hK; clear hK) | (clear hK; rename ∀ st, Tri _ _ _ st _ → _ => hK; first | (apply hK; clear hK) | (clear hK; rename ∀ st, Tri _ _ _ st _ → _ => hK; first | (apply hK; clear hK) | (clear hK; rename ∀ st, Tri _ _ _ st _ → _ => hK; first | (apply hK; clear hK) | (clear hK; rename ∀ st, Tri _ _ _ st _ → _ => hK; apply hK; clear hK)))))) | skip)
          | (intro β)
          | (rename ∀ st, Tri _ _ _ st _ → _ => hK; apply hK; clear hK))
        rename ∀ st, Tri _ _ _ st _ → _ => hK
        generalize hl2 : (l.drop at' : List Att) = l2
        have hl2b : l2.length ≤ 150 := by rw [← hl2]; simp; try omega
        have g0 : ∀ a ∈ l2, a.out = 1 := by rw [← hl2]; first | exact fin _ rfl | simp
        refine Tri.range 152 151 153 159 160 rfl rfl l2.length (fun k st => st.sl 150 = .c (.sl nl 8 none (l2.map attC))) (by simp) (by omega) ?_ rfl (by simp [upd]) (by simp [upd, ← hl2]) ?_ ?_ ?_
        · rintro k st t v ht h
          rcases ht with rfl | rfl | rfl <;> simpa [upd] using h
        · simp [upd, ← hl2, List.map_drop, List.take_of_length_le]
        · rintro k st hk h hn h152 h151
          have g1 : (l2[k].out == 1) = true := by simp [g0 _ (List.getElem_mem hk)]
          repeat (first
            | (refine Tri.seq fun K hK => ?_)
            | (refine Tri.region ?_; simp [upd, hn, h, h152, h151, hk, g1, bne])
            | (refine Tri.draw (by kernel_rfl) (by kernel_rfl) ?_; simp [upd, hn, h, h152, h151, hk, g1, bne])
            | (refine Tri.cond_true ?_ ?_; (focus simp [upd, hn, h, h152, h151, hk, g1, bne]; done))
            | (refine Tri.cond_false ?_ ?_; (focus simp [upd, hn, h, h152, h151, hk, g1, bne]; done))
            | (refine Tri.skip ?_; simp only [thenS, blockS])
            | (refine Tri.block_seq ?_)
            | (refine Tri.block_region ?_)
            | (refine Tri.block_cond ?_)
            | (refine Tri.exit ?_; simp [upd, hn, h, h152, h151, hk, g1, bne]; first | (rename ∀ st, Tri _ _ _ st _ → _ => hK; first | (apply hK; clear hK) | (clear hK; rename ∀ st, Tri _ _ _ st _ → _ => hK; first | (apply hK; clear hK) | (clear hK; rename ∀ st, Tri _ _ _ st _ → _ => hK; first | (apply hK; clear hK) | (clear hK; rename ∀ st, Tri _ _ _ st _ → _ => hK; first | (apply hK; clear hK) | (clear hK; rename ∀ st, Tri _ _ _ st _ → _ => hK; first | (apply hK; clear hK) | (clear hK; rename ∀ st, Tri _ _ _ st _ → _ => hK; apply hK; clear hK)))))) | skip)
            | (intro β)
            | (rename ∀ st, Tri _ _ _ st _ → _ => hK; apply hK; clear hK))
          try simp [upd, h152, h151, h]
        · rintro st h hn
          apply hK
          repeat (first
            | (refine Tri.seq fun K hK => ?_)
            | (refine Tri.region ?_; simp [upd, hn])
            | (refine Tri.draw (by kernel_rfl) (by kernel_rfl) ?_; simp [upd, hn])
            | (refine Tri.cond_true ?_ ?_; (focus simp [upd, hn]; done))
            | (refine Tri.cond_false ?_ ?_; (focus simp [upd, hn]; done))
            | (refine Tri.skip ?_; simp only [thenS, blockS])
            | (refine Tri.block_seq ?_)
            | (refine Tri.block_region ?_)
            | (refine Tri.block_cond ?_)
            | (refine Tri.exit ?_; simp [upd, hn]; first | (rename ∀ st, Tri _ _ _ st _ → _ => hK; first | (apply hK; clear hK) | (clear hK; rename ∀ st, Tri _ _ _ st _ → _ => hK; first | (apply hK; clear hK) | (clear hK; rename ∀ st, Tri _ _ _ st _ → _ => hK; first | (apply hK; clear hK) | (clear hK; rename ∀ st, Tri _ _ _ st _ → _ => hK; first | (apply hK; clear hK) | (clear hK; rename ∀ st, Tri _ _ _ st _ → _ => hK; first | (apply hK; clear hK) | (clear hK; rename ∀ st, Tri _ _ _ st _ → _ => hK; apply hK; clear hK)))))) | skip)
            | (intro β)
            | (rename ∀ st, Tri _ _ _ st _ → _ => hK; apply hK; clear hK))
          refine Tri.ret ⟨_, rfl, ?_⟩
          simp [upd]
          exact Wk.refl _
end Go.Proofs.Ytcohdlochpjnjaa
end
section
open Go Go.Vm
open Go.ChangeShapes Go.WideShapes Go.ChangeAt Go.RowKit
namespace Go.Proofs.Ytcohdlochpjnjaa.recordRuns
set_option linter.unusedVariables false
theorem own : ownKnob Try.prog.godebug = none := by kernel_rfl
set_option maxRecDepth 100000 in
theorem lifted (os : Os) (started : os.Started) (H : Type) (enc : TypeId × Value → H) :
    ReturnsInHanded {} Try.checked os 6 .any (Rows.recordRunsSpec.pre6 enc Try.prog Try.f6 Rows.recordRunsRow.domain false) (Rows.recordRunsSpec.post enc Try.prog Try.f6 false true false false) := by
  refine returnsInHanded_of_change (C := Try.checked) own started (by kernel_rfl) Try.func6
    (ChangeSpec.witness6 (enc := enc) (C := Try.checked) false ⟨#[], #[.agg #[.int .i64 0, .slice none 0 0, .slice none 0 0], .int .i64 0, .int .i64 0, .int .i64 0, .int .i64 0], []⟩ 8 (by kernel_rfl) (by kernel_rfl) (by kernel_rfl) (by kernel_rfl)) ?_
  intro W base args ds gs before hval0 hW hcnd _
  have hval : ∀ (j : Nat) t v, Try.f6.params[j]? = some t → args[j]? = some v → Value.okWide Try.prog W .any base t v := hval0
  have hW' := hW
  obtain ⟨p, q, hA0, hV, rfl, hfz, hnd⟩ := hW
  have hA : DataW.TrodAll enc Try.prog W 0 (fun _ => true) true Try.f6.params.toList args.toList ds p := hA0
  rw [Try.params6] at hA hval
  obtain ⟨v0, vs0, d0, ds0, p0, q0, hargs0, rfl, rfl, h0, r0⟩ := trodAll_cons hA
  obtain ⟨v1, vs1, d1, ds1, p1, q1, hargs1, rfl, rfl, h1, r1⟩ := trodAll_cons r0
  subst hargs1
  obtain ⟨v2, vs2, d2, ds2, p2, q2, hargs2, rfl, rfl, h2, r2⟩ := trodAll_cons r1
  subst hargs2
  obtain ⟨v3, vs3, d3, ds3, p3, q3, hargs3, rfl, rfl, h3, r3⟩ := trodAll_cons r2
  subst hargs3
  obtain ⟨v4, vs4, d4, ds4, p4, q4, hargs4, rfl, rfl, h4, r4⟩ := trodAll_cons r3
  subst hargs4
  obtain ⟨rfl, rfl, rfl⟩ := trodAll_nil r4
  obtain rfl : args = #[v0, v1, v2, v3, v4] := by cases args; simp_all
  obtain ⟨rfl, rfl⟩ := trodVars_none hV
  obtain ⟨r, hra, hrd, hrl, hrm, hv0⟩ := open_rec (hval 0 28 v0 rfl rfl) h0
  obtain ⟨a, rfl, rfl, rfl, w1⟩ := open_int (k := .i64) (by kernel_rfl) (hval 1 3 v1 rfl rfl) h1
  have ha : -9223372036854775808 ≤ a ∧ a < 9223372036854775808 := by
    have := w1
    simp [Lit.wf, IntKind.min, IntKind.max, IntKind.signed, IntKind.bits] at this
    omega
  obtain ⟨b, rfl, rfl, rfl, w2⟩ := open_int (k := .i64) (by kernel_rfl) (hval 2 3 v2 rfl rfl) h2
  have hb : -9223372036854775808 ≤ b ∧ b < 9223372036854775808 := by
    have := w2
    simp [Lit.wf, IntKind.min, IntKind.max, IntKind.signed, IntKind.bits] at this
    omega
  obtain ⟨c, rfl, rfl, rfl, w3⟩ := open_int (k := .i64) (by kernel_rfl) (hval 3 3 v3 rfl rfl) h3
  have hc : -9223372036854775808 ≤ c ∧ c < 9223372036854775808 := by
    have := w3
    simp [Lit.wf, IntKind.min, IntKind.max, IntKind.signed, IntKind.bits] at this
    omega
  obtain ⟨d, rfl, rfl, rfl, w4⟩ := open_int (k := .i64) (by kernel_rfl) (hval 4 3 v4 rfl rfl) h4
  have hd : -9223372036854775808 ≤ d ∧ d < 9223372036854775808 := by
    have := w4
    simp [Lit.wf, IntKind.min, IntKind.max, IntKind.signed, IntKind.bits] at this
    omega
  clear hA0 hval0
  simp only [List.append_nil] at hW'
  have hlt := hW'.lt
  have hD := (runs_does r a b c d hra hrd).2 (fun b _ => b < W.heap.size) W [v0, .int .i64 a, .int .i64 b, .int .i64 c, .int .i64 d] ⟨rfl, fun k hk => match k, hk with
    | 0, _ => hv0
    | 1, _ => .c (.int _ _)
    | 2, _ => .c (.int _ _)
    | 3, _ => .c (.int _ _)
    | 4, _ => .c (.int _ _)⟩ (fun b _ h => h)
  refine hD.mono fun e W' ⟨u, F', he, hu, hl⟩ => ?_
  subst he
  have hb : Below W.heap.size W W' := ⟨hl.os, hl.tape, hl.output, hl.size, hl.block⟩
  have hu' := hu.inv
  cases hu'
  have hsame0 : ∀ p ∈ p0, W.sameAt W' p := fun p hp => hb.same (hlt p (by simp [hp]))
  exact ⟨_, rfl, post_below (pa := (p0 ++ ([] ++ ([] ++ ([] ++ ([] ++ [])))))) (pv := []) hW' hb (by simp) (fun _ _ _ => (trodAll_cons_mk (shut_bool Try.underlying4 _) trodAll_mk0))
    (fun sp hsp => (trodAll_cons_mk (WideElems.Trod_stays (by kernel_rfl) (by kernel_rfl) (by decide +kernel) h0 hsame0 fun p hp => hsp p (by simp [hp])) (trodAll_cons_mk (shut_int (by kernel_rfl) w1) (trodAll_cons_mk (shut_int (by kernel_rfl) w2) (trodAll_cons_mk (shut_int (by kernel_rfl) w3) (trodAll_cons_mk (shut_int (by kernel_rfl) w4) trodAll_mk0))))))
    (fun _ _ => rfl) (ok_one (by kernel_rfl) rfl (okWide_bool_mk Try.underlying4 _))⟩
theorem over : Rows.recordRunsRow.holds Try.pinned (OpenSpec.ofChange Rows.recordRunsSpec) :=
  OpenClaim.holds_of_wide 6 Try.f6 rfl rfl rfl rfl rfl rfl rfl ⟨rfl, rfl, rfl, rfl, rfl⟩ rfl rfl rfl rfl rfl (by kernel_rfl) Try.func6 (by kernel_rfl)
    (of_decide_eq_true (by kernel_rfl)) (by unfold Func.isWrapper; first | (rw [if_pos (by decide +kernel)]; kernel_rfl) | (rw [if_neg (by decide +kernel)]; exact ⟨rfl, rfl⟩))
    (fun os started H enc _ => lifted os started H enc)
theorem proved : Rows.RecordRunsSaid :=
  over
end Go.Proofs.Ytcohdlochpjnjaa.recordRuns
end
