/- Lemmas for the statements of this seat: M14 M16 M17 M19. -/
import Derived.Test.YtngbpmiikpjiaaaB4
set_option linter.all false
section
open Go Go.Vm
namespace Go.Proofs.Ytngbpmiikpjiaaa
set_option maxRecDepth 100000
set_option maxHeartbeats 4000000
set_option linter.unusedSimpArgs false
attribute [-simp] isObj C.isO
def sameF (f n : Int) (d : Del) : Bool := d.flow == f && d.frame == n
/-- A delivery of a frame that was delivered earlier. -/
def tw1 (l : List Del) (k : Nat) : List Del := match l[k]? with
  | some d => if (l.take k).any (sameF d.flow d.frame) = true then [d] else []
  | none => []
def twices (l : List Del) : List Del := (List.range l.length).flatMap (tw1 l)
def twN (r : Rec) : List Del := if check r = 0 then twices r.dels else []
def twE (r : Rec) : Int := if check r = 0 then 0 else 1
theorem tw1_at (l : List Del) (k : Nat) (hk : k < l.length) : tw1 l k = if (l.take k).any (sameF l[k].flow l[k].frame) = true then [l[k]] else [] := by
  rw [tw1, List.getElem?_eq_getElem hk]
theorem tw1_len (l : List Del) (k : Nat) : (tw1 l k).length ≤ 1 := by
  unfold tw1
  split
  · split <;> simp
  · simp
def kC (e : Int × Int) : List C := [.int .i64 e.1, .int .i64 e.2, .bool true]
attribute [local irreducible] Tri Does DoesB DoesR Rounds check fault flowsE arr slotsOf inB findI
structure TJ (r : Rec) (k : Nat) (st : St) (bm : Nat) (es : List (Int × Int)) : Prop where
  hn : st.n = 37
  s15 : st.sl 15 = .c (.sl r.dn 3 none (r.dels.map delC))
  s5 : st.sl 5 = .c (.map 12 bm)
  x12 : st.bx 12 = some (bm, [.mapc true 2 false (es.map kC)])
  he : ∀ f n, es.any (fun e => f == e.1 && n == e.2) = (r.dels.take k).any (sameF f n)
  g4 : Grows st (st.sl 4) 32 54 3 (((List.range k).flatMap (tw1 r.dels)).map delC)
def TJ1 (r : Rec) (k : Nat) (st : St) : Prop := ∃ bm es, TJ r k st bm es
theorem any_iff {f n : Int} {es : List (Int × Int)} : es.any (fun e => f == e.1 && n == e.2) = (es.findIdx? (fun e => f == e.1 && n == e.2)).isSome := by
  rw [Bool.eq_iff_iff, List.findIdx?_isSome]
theorem twice_does (r : Rec) : Does Try.prog 19 [.agg (recC r)] (.tup [.c (.sl (twN r).isEmpty 3 none ((twN r).map delC)), .c (.int .i64 (twE r))]) := by
  refine Does.of_body Try.func19 rfl (by kernel_rfl) rfl rfl (by simp) ?_
  intro E
  have hr := check_does r
  cases hg : (check r == 0)
  case false =>
    have e1 : twN r = [] := by rw [twN, if_neg (by simpa using hg)]
    have e2 : twE r = 1 := by rw [twE, if_neg (by simpa using hg)]
    rw [e1, e2]
    simp only [recC] at hr ⊢
    repeat (first
      | (refine Tri.seq fun K hK => ?_)
      | (refine Tri.region ?_; simp [upd, hg, bne])
      | (refine Tri.draw (by kernel_rfl) (by decide +kernel) ?_; simp [upd, hg, bne])
      | (refine Tri.cond_true ?_ ?_; (focus simp [upd, hg, bne]; done))
      | (refine Tri.cond_false ?_ ?_; (focus simp [upd, hg, bne]; done))
      | (refine Tri.skip ?_; simp only [thenS, blockS])
      | (refine Tri.block_seq ?_)
      | (refine Tri.block_region ?_)
      | (refine Tri.block_cond ?_)
      | ((with_reducible refine CallK.pure (hr) (Wks.refl _) ?_); simp [upd, hg, bne])
      | (refine Tri.exit ?_; simp [upd, hg, bne]; first | (rename ∀ st, Tri _ _ _ st _ → _ => hK; first | (apply hK; clear hK) | (clear hK; rename ∀ st, Tri _ _ _ st _ → _ => hK; first | (apply hK; clear hK) | (clear hK; rename ∀ st, Tri _ _ _ st _ → _ => hK; first | (apply hK; clear hK) | (clear hK; rename ∀ st, Tri _ _ _ st _ → _ => hK; first | (apply hK; clear hK) | (clear hK; rename ∀ st, Tri _ _ _ st _ → _ => hK; first | (apply hK; clear hK) | (clear hK; rename ∀ st, Tri _ _ _ st _ → _ => hK; apply hK; clear hK)))))) | skip)
      | (intro β)
      | (rename ∀ st, Tri _ _ _ st _ → _ => hK; apply hK; clear hK))
    refine Tri.ret ⟨_, rfl, ?_⟩
    simp [upd]
    exact .tup2 (.nil _ _ _ _) (.refl _)
  have hg0 : check r = 0 := by simpa using hg
  have e1 : twN r = twices r.dels := by rw [twN, if_pos hg0]
  have e2 : twE r = 0 := by rw [twE, if_pos hg0]
  rw [e1, e2]
  obtain ⟨hl1, hl2⟩ := check_lens hg0
  simp only [recC] at hr ⊢
  repeat (first
    | (refine Tri.seq fun K hK => ?_)
    | (refine Tri.region ?_; simp [upd, hg, bne])
    | (refine Tri.draw (by kernel_rfl) (by decide +kernel) ?_; simp [upd, hg, bne])
    | (refine Tri.cond_true ?_ ?_; (focus simp [upd, hg, bne]; done))
    | (refine Tri.cond_false ?_ ?_; (focus simp [upd, hg, bne]; done))
    | (refine Tri.skip ?_; simp only [thenS, blockS])
    | (refine Tri.block_seq ?_)
    | (refine Tri.block_region ?_)
    | (refine Tri.block_cond ?_)
    | ((with_reducible refine CallK.pure (hr) (Wks.refl _) ?_); simp [upd, hg, bne])
    | (refine Tri.exit ?_; simp [upd, hg, bne]; first | (rename ∀ st, Tri _ _ _ st _ → _ => hK; first | (apply hK; clear hK) | (clear hK; rename ∀ st, Tri _ _ _ st _ → _ => hK; first | (apply hK; clear hK) | (clear hK; rename ∀ st, Tri _ _ _ st _ → _ => hK; first | (apply hK; clear hK) | (clear hK; rename ∀ st, Tri _ _ _ st _ → _ => hK; first | (apply hK; clear hK) | (clear hK; rename ∀ st, Tri _ _ _ st _ → _ => hK; first | (apply hK; clear hK) | (clear hK; rename ∀ st, Tri _ _ _ st _ → _ => hK; apply hK; clear hK)))))) | skip)
    | (intro β)
    | (rename ∀ st, Tri _ _ _ st _ → _ => hK; apply hK; clear hK))
  refine Tri.range 17 16 18 35 37 rfl rfl r.dels.length (TJ1 r) (by simp) (by omega) ?_ rfl (by simp [upd]) (by simp [upd]) ?_ ?_ ?_
  · rintro k st t v ht ⟨bm, es, hn, s15, s5, x12, he, g4⟩
    rcases ht with rfl | rfl | rfl <;> exact ⟨bm, es, hn, by simpa [upd] using s15, by simpa [upd] using s5, x12, he, by simpa [upd, Grows] using g4⟩
  · exact ⟨_, [], rfl, by simp [upd], by simp [upd] <;> exact rfl, by simp [upd] <;> exact rfl, fun _ _ => rfl, by simp [upd, Grows]⟩
  · rintro k st hk ⟨bm, es, -, s15, s5, x12, he, g4⟩ hn h17 h16
    have hE := findE_map kC (fun e => e.1) (fun e => e.2) (fun _ => rfl) r.dels[k].flow r.dels[k].frame es 0
    have hnx : (List.range (k + 1)).flatMap (tw1 r.dels) = (List.range k).flatMap (tw1 r.dels) ++ tw1 r.dels k := by
      rw [List.range_succ, List.flatMap_append]; simp
    rw [tw1_at _ _ hk, ← he, any_iff] at hnx
    have hacc := flatMap_le (tw1 r.dels) 1 (List.range k) (fun x _ => tw1_len r.dels x)
    rw [List.length_range] at hacc
    have hsu : ∀ f n, (r.dels.take (k + 1)).any (sameF f n) = (es.any (fun e => f == e.1 && n == e.2) || sameF f n r.dels[k]) := fun f n => by
      rw [List.take_succ_eq_append_getElem hk, List.any_append, he]; simp
    generalize (List.range k).flatMap (tw1 r.dels) = acc at *
    cases hf : es.findIdx? (fun e => r.dels[k].flow == e.1 && r.dels[k].frame == e.2) with
    | none =>
      rw [hf] at hE hnx
      simp only [Option.map_none] at hE
      rw [if_neg (by simp), List.append_nil] at hnx
      generalize hents : es.map kC = ents at hE x12
      repeat (first
        | (refine Tri.seq fun K hK => ?_)
        | (refine Tri.region ?_; simp [upd, hn, s15, s5, x12, h17, h16, hk, hE, hf])
        | (refine Tri.draw (by kernel_rfl) (by decide +kernel) ?_; simp [upd, hn, s15, s5, x12, h17, h16, hk, hE, hf])
        | (refine Tri.cond_true ?_ ?_; (focus simp [upd, hn, s15, s5, x12, h17, h16, hk, hE, hf]; done))
        | (refine Tri.cond_false ?_ ?_; (focus simp [upd, hn, s15, s5, x12, h17, h16, hk, hE, hf]; done))
        | (refine Tri.skip ?_; simp only [thenS, blockS])
        | (refine Tri.block_seq ?_)
        | (refine Tri.block_region ?_)
        | (refine Tri.block_cond ?_)
        | (refine Tri.exit ?_; simp [upd, hn, s15, s5, x12, h17, h16, hk, hE, hf]; first | (rename ∀ st, Tri _ _ _ st _ → _ => hK; first | (apply hK; clear hK) | (clear hK; rename ∀ st, Tri _ _ _ st _ → _ => hK; first | (apply hK; clear hK) | (clear hK; rename ∀ st, Tri _ _ _ st _ → _ => hK; first | (apply hK; clear hK) | (clear hK; rename ∀ st, Tri _ _ _ st _ → _ => hK; first | (apply hK; clear hK) | (clear hK; rename ∀ st, Tri _ _ _ st _ → _ => hK; first | (apply hK; clear hK) | (clear hK; rename ∀ st, Tri _ _ _ st _ → _ => hK; apply hK; clear hK)))))) | skip)
        | (intro β)
        | (rename ∀ st, Tri _ _ _ st _ → _ => hK; apply hK; clear hK))
      refine ⟨bm, es ++ [(r.dels[k].flow, r.dels[k].frame)], rfl, by simp [upd, s15], by simp [upd, s5], ?_, ?_, by rw [hnx]; simpa [upd, Grows] using g4⟩
      · simp [upd, ← hents, kC]
      · intro f n
        rw [hsu, List.any_append]
        congr 1
        simp only [List.any_cons, List.any_nil, Bool.or_false, sameF]
        rw [Bool.eq_iff_iff]
        simp only [Bool.and_eq_true, beq_iff_eq]
        omega
    | some i =>
      obtain ⟨hi, hp, -⟩ := List.findIdx?_eq_some_iff_getElem.1 hf
      simp only [Bool.and_eq_true, beq_iff_eq] at hp
      rw [hf] at hE hnx
      simp only [Option.map_some, Nat.add_zero] at hE
      rw [if_pos (by simp)] at hnx
      have hil : i < (es.map kC).length := by simpa using hi
      have hei : (es.map kC)[i]'hil = [.int .i64 r.dels[k].flow, .int .i64 r.dels[k].frame, .bool true] := by
        rw [List.getElem_map, kC, hp.1, hp.2]
      have hset : (es.map kC).set i [.int .i64 r.dels[k].flow, .int .i64 r.dels[k].frame, .bool true] = es.map kC := by
        rw [← hei, List.set_getElem_self]
      have hany : ∀ f n, (r.dels.take (k + 1)).any (sameF f n) = es.any (fun e => f == e.1 && n == e.2) := fun f n => by
        rw [hsu]
        cases hq : sameF f n r.dels[k] with
        | false => simp
        | true =>
          simp only [sameF, Bool.and_eq_true, beq_iff_eq] at hq
          rw [Bool.or_true]
          symm
          rw [List.any_eq_true]
          exact ⟨es[i], List.getElem_mem hi, by simp; omega⟩
      obtain ⟨ents, hents⟩ : ∃ ents, ents = es.map kC := ⟨_, rfl⟩
      simp only [← hents] at hE x12 hei hil hset
      rcases g4 with ⟨hnil, n0, own, g4⟩ | ⟨hne, b, g4, hrw⟩
      · have hnil' : acc = [] := by simpa using hnil
        subst hnil'
        repeat (first
          | (refine Tri.seq fun K hK => ?_)
          | (refine Tri.region ?_; simp [upd, hn, s15, s5, x12, h17, h16, hk, hE, hil, hei, hset, g4])
          | (refine Tri.draw (by kernel_rfl) (by decide +kernel) ?_; simp [upd, hn, s15, s5, x12, h17, h16, hk, hE, hil, hei, hset, g4])
          | (refine Tri.cond_true ?_ ?_; (focus simp [upd, hn, s15, s5, x12, h17, h16, hk, hE, hil, hei, hset, g4]; done))
          | (refine Tri.cond_false ?_ ?_; (focus simp [upd, hn, s15, s5, x12, h17, h16, hk, hE, hil, hei, hset, g4]; done))
          | (refine Tri.skip ?_; simp only [thenS, blockS])
          | (refine Tri.block_seq ?_)
          | (refine Tri.block_region ?_)
          | (refine Tri.block_cond ?_)
          | (refine Tri.exit ?_; simp [upd, hn, s15, s5, x12, h17, h16, hk, hE, hil, hei, hset, g4]; first | (rename ∀ st, Tri _ _ _ st _ → _ => hK; first | (apply hK; clear hK) | (clear hK; rename ∀ st, Tri _ _ _ st _ → _ => hK; first | (apply hK; clear hK) | (clear hK; rename ∀ st, Tri _ _ _ st _ → _ => hK; first | (apply hK; clear hK) | (clear hK; rename ∀ st, Tri _ _ _ st _ → _ => hK; first | (apply hK; clear hK) | (clear hK; rename ∀ st, Tri _ _ _ st _ → _ => hK; first | (apply hK; clear hK) | (clear hK; rename ∀ st, Tri _ _ _ st _ → _ => hK; apply hK; clear hK)))))) | skip)
          | (intro β)
          | (rename ∀ st, Tri _ _ _ st _ → _ => hK; apply hK; clear hK))
        exact ⟨bm, es, rfl, by simp [upd, s15], by simp [upd, s5], by simp [upd, ← hents], fun f n => (hany f n).symm, by rw [hnx]; simp [upd, Grows]⟩
      · have hb2 : (acc.length + 1) * 24 ≤ 140737488355328 := by omega
        rw [List.length_map] at hrw
        repeat (first
          | (refine Tri.seq fun K hK => ?_)
          | (refine Tri.region ?_; simp [upd, hn, s15, s5, x12, h17, h16, hk, hE, hil, hei, hset, g4, hrw, hb2])
          | (refine Tri.draw (by kernel_rfl) (by decide +kernel) ?_; simp [upd, hn, s15, s5, x12, h17, h16, hk, hE, hil, hei, hset, g4, hrw, hb2])
          | (refine Tri.cond_true ?_ ?_; (focus simp [upd, hn, s15, s5, x12, h17, h16, hk, hE, hil, hei, hset, g4, hrw, hb2]; done))
          | (refine Tri.cond_false ?_ ?_; (focus simp [upd, hn, s15, s5, x12, h17, h16, hk, hE, hil, hei, hset, g4, hrw, hb2]; done))
          | (refine Tri.skip ?_; simp only [thenS, blockS])
          | (refine Tri.block_seq ?_)
          | (refine Tri.block_region ?_)
          | (refine Tri.block_cond ?_)
          | (refine Tri.exit ?_; simp [upd, hn, s15, s5, x12, h17, h16, hk, hE, hil, hei, hset, g4, hrw, hb2]; first | (rename ∀ st, Tri _ _ _ st _ → _ => hK; first | (apply hK; clear hK) | (clear hK; rename ∀ st, Tri _ _ _ st _ → _ => hK; first | (apply hK; clear hK) | (clear hK; rename ∀ st, Tri _ _ _ st _ → _ => hK; first | (apply hK; clear hK) | (clear hK; rename ∀ st, Tri _ _ _ st _ → _ => hK; first | (apply hK; clear hK) | (clear hK; rename ∀ st, Tri _ _ _ st _ → _ => hK; first | (apply hK; clear hK) | (clear hK; rename ∀ st, Tri _ _ _ st _ → _ => hK; apply hK; clear hK)))))) | skip)
          | (intro β)
          | (rename ∀ st, Tri _ _ _ st _ → _ => hK; apply hK; clear hK))
        exact ⟨bm, es, rfl, by simp [upd, s15], by simp [upd, s5], by simp [upd, ← hents], fun f n => (hany f n).symm, by rw [hnx]; simp [upd, Grows]⟩
  · rintro st ⟨bm, es, -, s15, s5, x12, he, g4⟩ hn
    rename ∀ st, Tri _ _ _ st _ → _ => hK
    apply hK
    have hw := g4.wk
    change Wk _ (.c (.sl ((twices r.dels).map delC).isEmpty 3 none ((twices r.dels).map delC))) at hw
    repeat (first
      | (refine Tri.seq fun K hK => ?_)
      | (refine Tri.region ?_; simp [upd, hn])
      | (refine Tri.draw (by kernel_rfl) (by decide +kernel) ?_; simp [upd, hn])
      | (refine Tri.cond_true ?_ ?_; (focus simp [upd, hn]; done))
      | (refine Tri.cond_false ?_ ?_; (focus simp [upd, hn]; done))
      | (refine Tri.skip ?_; simp only [thenS, blockS])
      | (refine Tri.block_seq ?_)
      | (refine Tri.block_region ?_)
      | (refine Tri.block_cond ?_)
      | (refine Tri.exit ?_; simp [upd, hn]; first | (rename ∀ st, Tri _ _ _ st _ → _ => hK; first | (apply hK; clear hK) | (clear hK; rename ∀ st, Tri _ _ _ st _ → _ => hK; first | (apply hK; clear hK) | (clear hK; rename ∀ st, Tri _ _ _ st _ → _ => hK; first | (apply hK; clear hK) | (clear hK; rename ∀ st, Tri _ _ _ st _ → _ => hK; first | (apply hK; clear hK) | (clear hK; rename ∀ st, Tri _ _ _ st _ → _ => hK; first | (apply hK; clear hK) | (clear hK; rename ∀ st, Tri _ _ _ st _ → _ => hK; apply hK; clear hK)))))) | skip)
      | (intro β)
      | (rename ∀ st, Tri _ _ _ st _ → _ => hK; apply hK; clear hK))
    refine Tri.ret ⟨_, rfl, ?_⟩
    simp [upd]
    refine .tup2 ?_ (.refl _)
    simpa using hw
end Go.Proofs.Ytngbpmiikpjiaaa
end
section
open Go Go.Vm
namespace Go.Proofs.Ytngbpmiikpjiaaa
set_option maxRecDepth 100000
set_option maxHeartbeats 8000000
set_option linter.unusedSimpArgs false
attribute [-simp] isObj C.isO
structure Svc where
  frames : Int
  late : Int
  least : Int
  most : Int
  att : Int
  lost : Int
@[simp] def svcC (x : Svc) : List C := [.int .i64 x.frames, .int .i64 x.late, .int .i64 x.least, .int .i64 x.most, .int .i64 x.att, .int .i64 x.lost]
def svZ : Svc := ⟨0, 0, 0, 0, 0, 0⟩
/-- A frame that came in time, with its latency. -/
def svL (x : Svc) (n : Int) : Svc := { x with most := if x.most < n then n else x.most, least := if x.least = 0 then n else if n < x.least then n else x.least }
def svF (f : Flo) (dels : List Del) (x : Svc) (k : Nat) : Svc :=
  if (arrI f k (slotsOf f.id k dels)).2 = true then svL x ((arrI f k (slotsOf f.id k dels)).1 - f.pha - k * f.per + 1) else { x with late := x.late + 1 }
def svA (id : Int) (x : Svc) (a : Att) : Svc := if a.flow = id ∧ a.out ≠ 4 then { x with att := x.att + 1, lost := if a.out = 1 then x.lost else x.lost + 1 } else x
def serve1 (f : Flo) (r : Rec) : Svc := (List.range (compI f r.slots).toNat).foldl (svF f r.dels) { svZ with frames := compI f r.slots }
def serve2 (id : Int) (f : Flo) (r : Rec) : Svc := r.atts.foldl (svA id) (serve1 f r)
def serveN (l : List Flo) (r : Rec) (id : Int) : Svc := if flowsE l = 0 ∧ check r = 0 then (match l.find? (fun f => f.id == id) with | some f => serve2 id f r | none => svZ) else svZ
def serveE (l : List Flo) (r : Rec) (id : Int) : Int := if flowsE l = 0 ∧ check r = 0 then (if findI id l < 0 then 7 else 0) else 1
theorem arrGo_in (first last due : Int) : ∀ (l : List Int) (late : Int), (arrGo first last due late l).2 = true → first ≤ (arrGo first last due late l).1 ∧ (arrGo first last due late l).1 ≤ due
  | [], _, h => by cases h
  | s :: r, late, h => by
    rw [arrGo] at h ⊢
    split at h
    · rename_i h1; rw [if_pos h1]; exact h1
    · rename_i h1; rw [if_neg h1]; exact arrGo_in first last due r _ h
theorem arrI_in {f : Flo} {k : Int} {l : List Int} (h : (arrI f k l).2 = true) : relI f k ≤ (arrI f k l).1 ∧ (arrI f k l).1 ≤ relI f k + f.dea - 1 := arrGo_in _ _ _ _ _ h
theorem range_succ_foldl {α : Type} (g : α → Nat → α) (x : α) (j : Nat) : (List.range (j + 1)).foldl g x = g ((List.range j).foldl g x) j := by
  rw [List.range_succ, List.foldl_append]; rfl
theorem sv_fr (f : Flo) (d : List Del) (x : Svc) : ∀ j, ((List.range j).foldl (svF f d) x).frames = x.frames ∧ ((List.range j).foldl (svF f d) x).att = x.att ∧ ((List.range j).foldl (svF f d) x).lost = x.lost ∧
    x.late ≤ ((List.range j).foldl (svF f d) x).late ∧ ((List.range j).foldl (svF f d) x).late ≤ x.late + j
  | 0 => by simp
  | j + 1 => by
    obtain ⟨h1, h2, h3, h4, h5⟩ := sv_fr f d x j
    rw [range_succ_foldl]
    generalize (List.range j).foldl (svF f d) x = y at *
    unfold svF svL
    split
    · exact ⟨h1, h2, h3, h4, by simp; omega⟩
    · exact ⟨h1, h2, h3, by simp; omega, by simp; omega⟩
theorem sv_at (id : Int) : ∀ (l : List Att) (x : Svc), 0 ≤ x.att → 0 ≤ x.lost → 0 ≤ (l.foldl (svA id) x).att ∧ (l.foldl (svA id) x).att ≤ x.att + l.length ∧ 0 ≤ (l.foldl (svA id) x).lost ∧ (l.foldl (svA id) x).lost ≤ x.lost + l.length
  | [], x, h1, h2 => by simp [h1, h2]
  | a :: l, x, h1, h2 => by
    rw [List.foldl_cons, List.length_cons]
    have : 0 ≤ (svA id x a).att ∧ (svA id x a).att ≤ x.att + 1 ∧ 0 ≤ (svA id x a).lost ∧ (svA id x a).lost ≤ x.lost + 1 := by
      unfold svA
      split
      · simp only
        split <;> omega
      · omega
    have ih := sv_at id l (svA id x a) this.1 this.2.2.1
    omega
end Go.Proofs.Ytngbpmiikpjiaaa
end
section
open Go Go.Vm
namespace Go.Proofs.Ytngbpmiikpjiaaa
set_option maxRecDepth 100000
set_option maxHeartbeats 8000000
set_option linter.unusedSimpArgs false
attribute [-simp] isObj C.isO
attribute [local irreducible] Tri Does DoesB DoesR Rounds check fault flowsE arr slotsOf inB findI compI
def rC3 (r : Rec) : List C := [.int .i64 r.slots, .sl r.an 8 none (r.atts.map attC), .sl r.dn 3 none (r.dels.map delC)]
def DJ (l : List Flo) (nl : Bool) (r : Rec) (id : Int) (i : Nat) (f : Flo) (ents : List (List C)) (L : Nat → Bool) (st : St) : Prop := ∃ (b4 b6 b9 bm : Nat), st.n = 119 ∧ st.sl 0 = .c (.sl nl 6 none (l.map floC)) ∧ st.sl 2 = .c (.int .i64 id) ∧ st.sl 8 = .c (.int .i64 (i : Nat)) ∧
  st.sl 4 = .c (.box 4 b4 0) ∧ st.bx 4 = some (b4, rC3 r) ∧ st.sl 6 = .c (.box 6 b6 0) ∧ st.bx 6 = some (b6, svcC svZ) ∧
  (L 0 = true → st.sl 29 = .c (.sl nl 6 none (l.map floC))) ∧ (L 1 = true → st.sl 30 = .c (.int .i64 (i : Nat))) ∧ (L 2 = true → st.sl 31 = .c (.el 6 (l.map floC) i 0)) ∧ (L 3 = true → st.sl 32 = .agg (floC f)) ∧
  (L 4 = true → st.sl 33 = .agg (rC3 r)) ∧ (L 5 = true → st.sl 34 = .c (.map 100 bm) ∧ st.bx 100 = some (bm, [.mapc true 2 false ents])) ∧
  (L 6 = true → st.sl 9 = .c (.box 9 b9 0) ∧ ∃ z, z.length = 6 ∧ isObj z = false ∧ st.bx 9 = some (b9, z)) ∧ (L 7 = true → L 6 = true ∧ st.bx 9 = some (b9, floC f)) ∧ (L 8 = true → L 5 = true ∧ st.sl 10 = .c (.map 100 bm))
structure V0 (l : List Flo) (r : Rec) (id : Int) (f : Flo) (x : Svc) (st : St) (b4 b6 b11 : Nat) : Prop where
  hn : st.n = 119
  s2 : st.sl 2 = .c (.int .i64 id)
  s4 : st.sl 4 = .c (.box 4 b4 0)
  x4 : st.bx 4 = some (b4, rC3 r)
  s6 : st.sl 6 = .c (.box 6 b6 0)
  x6 : st.bx 6 = some (b6, svcC svZ)
  s11 : st.sl 11 = .c (.box 11 b11 0)
  x11 : st.bx 11 = some (b11, svcC x)
theorem V0.put {l : List Flo} {r : Rec} {id : Int} {f : Flo} {x : Svc} {st : St} {b4 b6 b11 : Nat} (h : V0 l r id f x st b4 b6 b11) (t : Nat) (v : V) (ht : t ≠ 2 ∧ t ≠ 4 ∧ t ≠ 6 ∧ t ≠ 11) : V0 l r id f x (st.put (some t) v) b4 b6 b11 := by
  obtain ⟨h1, h2, h3, h4⟩ := ht
  exact ⟨h.hn, by simpa [upd, h1.symm] using h.s2, by simpa [upd, h2.symm] using h.s4, h.x4, by simpa [upd, h3.symm] using h.s6, h.x6, by simpa [upd, h4.symm] using h.s11, h.x11⟩
def V1 (l : List Flo) (r : Rec) (id : Int) (f : Flo) (ents : List (List C)) (k : Nat) (st : St) : Prop := ∃ b4 b6 b11 b9 bm, V0 l r id f ((List.range k).foldl (svF f r.dels) { svZ with frames := compI f r.slots }) st b4 b6 b11 ∧
  st.sl 9 = .c (.box 9 b9 0) ∧ st.bx 9 = some (b9, floC f) ∧ st.sl 10 = .c (.map 100 bm) ∧ st.bx 100 = some (bm, [.mapc true 2 false ents])
def V2 (l : List Flo) (r : Rec) (id : Int) (f : Flo) (k : Nat) (st : St) : Prop := ∃ b4 b6 b11, V0 l r id f ((r.atts.take k).foldl (svA id) (serve1 f r)) st b4 b6 b11 ∧ st.sl 90 = .c (.sl r.an 8 none (r.atts.map attC))
theorem serve_does (l : List Flo) (nl : Bool) (r : Rec) (id : Int) : Does Try.prog 23 [.c (.sl nl 6 none (l.map floC)), .agg (recC r), .c (.int .i64 id)] (.tup [.agg (svcC (serveN l r id)), .c (.int .i64 (serveE l r id))]) := by
  refine Does.of_body Try.func23 rfl (by kernel_rfl) rfl rfl (by simp) ?_
  intro E
  have hr := right_does l nl r
  cases hg : (flowsE l == 0 && check r == 0)
  case false =>
    have e1 : serveN l r id = svZ := by rw [serveN, if_neg (by simpa using hg)]
    have e2 : serveE l r id = 1 := by rw [serveE, if_neg (by simpa using hg)]
    rw [e1, e2]
    rw [hg] at hr
    simp only [recC] at hr ⊢
    repeat (first
      | (refine Tri.seq fun K hK => ?_)
      | (refine Tri.region ?_; simp [upd])
      | (refine Tri.draw (by kernel_rfl) (by decide +kernel) ?_; simp [upd])
      | (refine Tri.cond_true ?_ ?_; (focus simp [upd]; done))
      | (refine Tri.cond_false ?_ ?_; (focus simp [upd]; done))
      | (refine Tri.skip ?_; simp only [thenS, blockS])
      | (refine Tri.block_seq ?_)
      | (refine Tri.block_region ?_)
      | (refine Tri.block_cond ?_)
      | ((with_reducible refine CallK.pure (hr) (Wks.refl _) ?_); simp [upd])
      | (refine Tri.exit ?_; simp [upd]; first | (rename ∀ st, Tri _ _ _ st _ → _ => hK; first | (apply hK; clear hK) | (clear hK; rename ∀ st, Tri _ _ _ st _ → _ => hK; first | (apply hK; clear hK) | (clear hK; rename ∀ st, Tri _ _ _ st _ → _ => hK; first | (apply hK; clear hK) | (clear hK; rename ∀ st, Tri _ _ _ st _ → _ => hK; first | (apply hK; clear hK) | (clear hK; rename ∀ st, Tri _ _ _ st _ → _ => hK; first | (apply hK; clear hK) | (clear hK; rename ∀ st, Tri _ _ _ st _ → _ => hK; apply hK; clear hK)))))) | skip)
      | (intro β)
      | (rename ∀ st, Tri _ _ _ st _ → _ => hK; apply hK; clear hK))
    exact Tri.ret ⟨.tup [.agg (svcC svZ), .c (.int .i64 1)], by simp [upd, svZ], Wk.refl _⟩
  rw [hg] at hr
  simp only [Bool.and_eq_true, beq_iff_eq] at hg
  obtain ⟨hl16, hfa, -⟩ := flows_ok hg.1
  obtain ⟨hs0, hs1⟩ := check_slots hg.2
  obtain ⟨hl1, hl2⟩ := check_lens hg.2
  have hfd := find_does l nl id (by omega)
  rcases find_cases l id with ⟨hf1, hf2⟩ | ⟨i, hi, hf1, hf2⟩
  · have e1 : serveN l r id = svZ := by rw [serveN, if_pos hg, hf2]
    have e2 : serveE l r id = 7 := by rw [serveE, if_pos hg, hf1]; rfl
    rw [e1, e2]
    rw [hf1] at hfd
    simp only [recC] at hr ⊢
    repeat (first
      | (refine Tri.seq fun K hK => ?_)
      | (refine Tri.region ?_; simp [upd])
      | (refine Tri.draw (by kernel_rfl) (by decide +kernel) ?_; simp [upd])
      | (refine Tri.cond_true ?_ ?_; (focus simp [upd]; done))
      | (refine Tri.cond_false ?_ ?_; (focus simp [upd]; done))
      | (refine Tri.skip ?_; simp only [thenS, blockS])
      | (refine Tri.block_seq ?_)
      | (refine Tri.block_region ?_)
      | (refine Tri.block_cond ?_)
      | ((with_reducible refine CallK.pure (hr) (Wks.refl _) ?_); simp [upd])
      | ((with_reducible refine CallK.pure (hfd) (Wks.refl _) ?_); simp [upd])
      | (refine Tri.exit ?_; simp [upd]; first | (rename ∀ st, Tri _ _ _ st _ → _ => hK; first | (apply hK; clear hK) | (clear hK; rename ∀ st, Tri _ _ _ st _ → _ => hK; first | (apply hK; clear hK) | (clear hK; rename ∀ st, Tri _ _ _ st _ → _ => hK; first | (apply hK; clear hK) | (clear hK; rename ∀ st, Tri _ _ _ st _ → _ => hK; first | (apply hK; clear hK) | (clear hK; rename ∀ st, Tri _ _ _ st _ → _ => hK; first | (apply hK; clear hK) | (clear hK; rename ∀ st, Tri _ _ _ st _ → _ => hK; apply hK; clear hK)))))) | skip)
      | (intro β)
      | (rename ∀ st, Tri _ _ _ st _ → _ => hK; apply hK; clear hK))
    exact Tri.ret ⟨.tup [.agg (svcC svZ), .c (.int .i64 7)], by simp [upd, svZ], Wk.refl _⟩
  have e1 : serveN l r id = serve2 id l[i] r := by rw [serveN, if_pos hg, hf2]
  have e2 : serveE l r id = 0 := by rw [serveE, if_pos hg, hf1, if_neg (by omega)]
  rw [e1, e2]
  rw [hf1] at hfd
  have hf := hfa i hi
  have hfid : l[i].id = id := by
    have := List.find?_some hf2
    simpa using this
  subst hfid
  have ha := arrivals_does r (by omega)
  have hlook := fun n => look_arr l[i].id n r.dels
  generalize (arr r.dels).map gC = ents at ha hlook
  simp only [recC] at hr ha ⊢
  repeat (first
    | (refine Tri.seq fun K hK => ?_)
    | (refine Tri.region ?_; simp [upd, hi])
    | (refine Tri.draw (by kernel_rfl) (by decide +kernel) ?_; simp [upd, hi])
    | (refine Tri.cond_true ?_ ?_; (focus simp [upd, hi]; done))
    | (refine Tri.cond_false ?_ ?_; (focus simp [upd, hi]; done))
    | (refine Tri.skip ?_; simp only [thenS, blockS])
    | (refine Tri.block_seq ?_)
    | (refine Tri.block_region ?_)
    | (refine Tri.block_cond ?_)
    | ((with_reducible refine CallK.pure (hr) (Wks.refl _) ?_); simp [upd, hi])
    | ((with_reducible refine CallK.pure (hfd) (Wks.refl _) ?_); simp [upd, hi])
    | (refine Tri.exit ?_; simp [upd, hi]; first | (rename ∀ st, Tri _ _ _ st _ → _ => hK; first | (apply hK; clear hK) | (clear hK; rename ∀ st, Tri _ _ _ st _ → _ => hK; first | (apply hK; clear hK) | (clear hK; rename ∀ st, Tri _ _ _ st _ → _ => hK; first | (apply hK; clear hK) | (clear hK; rename ∀ st, Tri _ _ _ st _ → _ => hK; first | (apply hK; clear hK) | (clear hK; rename ∀ st, Tri _ _ _ st _ → _ => hK; first | (apply hK; clear hK) | (clear hK; rename ∀ st, Tri _ _ _ st _ → _ => hK; apply hK; clear hK)))))) | skip)
    | (intro β)
    | (rename ∀ st, Tri _ _ _ st _ → _ => hK; apply hK; clear hK))
  refine Tri.drawAll (by kernel_rfl) (DJ l nl r l[i].id i l[i] ents) (by decide +kernel) ?_ ?_ ?_
  · exact ⟨_, _, 0, 0, rfl, by simp [upd], by simp [upd], by simp [upd], by simp [upd] <;> exact rfl, by simp [upd, rC3] <;> exact rfl, by simp [upd] <;> exact rfl, by simp [upd, svZ] <;> exact rfl, by simp, by simp, by simp, by simp, by simp, by simp, by simp, by simp, by simp⟩
  · rintro L st ⟨b4, b6, b9, bm, hn, s0, s2, s8, s4, x4, s6, x6, g0, g1, g2, g3, g4, g5, g6, g7, g8⟩
    generalize List.map _ _ = ds
    simp only [DrawAll, StepF_eq]
    refine ⟨?_, ?_, ?_, ?_, ?_, ?_, ?_, ?_, ?_, trivial⟩
    all_goals (intro hL hA; simp [afterOk, Region.binds] at hA)
    · simp [upd, hn, s0, s2, s8, s4, x4, s6, x6, rC3, hL]
      refine ⟨b4, b6, b9, bm, (by first | rfl | simp [hn]), by simpa [upd] using s0, by simpa [upd] using s2, by simpa [upd] using s8, by simpa [upd] using s4, by simpa [upd] using x4, by simpa [upd] using s6, by simpa [upd] using x6, ?_, ?_, ?_, ?_, ?_, ?_, ?_, ?_, ?_⟩
      · exact fun h => by first | (simpa [upd] using g0 (by simpa using h)) | (simp [upd, rC3]; done) | (simp_all [upd, rC3]; done)
      · exact fun h => by first | (simpa [upd] using g1 (by simpa using h)) | (simp [upd, rC3]; done) | (simp_all [upd, rC3]; done)
      · exact fun h => by first | (simpa [upd] using g2 (by simpa using h)) | (simp [upd, rC3]; done) | (simp_all [upd, rC3]; done)
      · exact fun h => by first | (simpa [upd] using g3 (by simpa using h)) | (simp [upd, rC3]; done) | (simp_all [upd, rC3]; done)
      · exact fun h => by first | (simpa [upd] using g4 (by simpa using h)) | (simp [upd, rC3]; done) | (simp_all [upd, rC3]; done)
      · exact fun h => by first | (simpa [upd] using g5 (by simpa using h)) | (simp [upd, rC3]; done) | (simp_all [upd, rC3]; done)
      · exact fun h => by first | (simpa [upd] using g6 (by simpa using h)) | (simp [upd, rC3]; done) | (simp_all [upd, rC3]; done)
      · exact fun h => by first | (simpa [upd] using g7 (by simpa using h)) | (simp [upd, rC3]; done) | (simp_all [upd, rC3]; done)
      · exact fun h => by first | (simpa [upd] using g8 (by simpa using h)) | (simp [upd, rC3]; done) | (simp_all [upd, rC3]; done)
    · simp [upd, hn, s0, s2, s8, s4, x4, s6, x6, rC3, hL]
      refine ⟨b4, b6, b9, bm, (by first | rfl | simp [hn]), by simpa [upd] using s0, by simpa [upd] using s2, by simpa [upd] using s8, by simpa [upd] using s4, by simpa [upd] using x4, by simpa [upd] using s6, by simpa [upd] using x6, ?_, ?_, ?_, ?_, ?_, ?_, ?_, ?_, ?_⟩
      · exact fun h => by first | (simpa [upd] using g0 (by simpa using h)) | (simp [upd, rC3]; done) | (simp_all [upd, rC3]; done)
      · exact fun h => by first | (simpa [upd] using g1 (by simpa using h)) | (simp [upd, rC3]; done) | (simp_all [upd, rC3]; done)
      · exact fun h => by first | (simpa [upd] using g2 (by simpa using h)) | (simp [upd, rC3]; done) | (simp_all [upd, rC3]; done)
      · exact fun h => by first | (simpa [upd] using g3 (by simpa using h)) | (simp [upd, rC3]; done) | (simp_all [upd, rC3]; done)
      · exact fun h => by first | (simpa [upd] using g4 (by simpa using h)) | (simp [upd, rC3]; done) | (simp_all [upd, rC3]; done)
      · exact fun h => by first | (simpa [upd] using g5 (by simpa using h)) | (simp [upd, rC3]; done) | (simp_all [upd, rC3]; done)
      · exact fun h => by first | (simpa [upd] using g6 (by simpa using h)) | (simp [upd, rC3]; done) | (simp_all [upd, rC3]; done)
      · exact fun h => by first | (simpa [upd] using g7 (by simpa using h)) | (simp [upd, rC3]; done) | (simp_all [upd, rC3]; done)
      · exact fun h => by first | (simpa [upd] using g8 (by simpa using h)) | (simp [upd, rC3]; done) | (simp_all [upd, rC3]; done)
    · simp [upd, hn, s0, s2, s8, s4, x4, s6, x6, rC3, g0 hA.1, g1 hA.2, hi]
      refine ⟨b4, b6, b9, bm, (by first | rfl | simp [hn]), by simpa [upd] using s0, by simpa [upd] using s2, by simpa [upd] using s8, by simpa [upd] using s4, by simpa [upd] using x4, by simpa [upd] using s6, by simpa [upd] using x6, ?_, ?_, ?_, ?_, ?_, ?_, ?_, ?_, ?_⟩
      · exact fun h => by first | (simpa [upd] using g0 (by simpa using h)) | (simp [upd, rC3]; done) | (simp_all [upd, rC3]; done)
      · exact fun h => by first | (simpa [upd] using g1 (by simpa using h)) | (simp [upd, rC3]; done) | (simp_all [upd, rC3]; done)
      · exact fun h => by first | (simpa [upd] using g2 (by simpa using h)) | (simp [upd, rC3]; done) | (simp_all [upd, rC3]; done)
      · exact fun h => by first | (simpa [upd] using g3 (by simpa using h)) | (simp [upd, rC3]; done) | (simp_all [upd, rC3]; done)
      · exact fun h => by first | (simpa [upd] using g4 (by simpa using h)) | (simp [upd, rC3]; done) | (simp_all [upd, rC3]; done)
      · exact fun h => by first | (simpa [upd] using g5 (by simpa using h)) | (simp [upd, rC3]; done) | (simp_all [upd, rC3]; done)
      · exact fun h => by first | (simpa [upd] using g6 (by simpa using h)) | (simp [upd, rC3]; done) | (simp_all [upd, rC3]; done)
      · exact fun h => by first | (simpa [upd] using g7 (by simpa using h)) | (simp [upd, rC3]; done) | (simp_all [upd, rC3]; done)
      · exact fun h => by first | (simpa [upd] using g8 (by simpa using h)) | (simp [upd, rC3]; done) | (simp_all [upd, rC3]; done)
    · simp [upd, hn, s0, s2, s8, s4, x4, s6, x6, rC3, g2 hA, hi]
      refine ⟨b4, b6, b9, bm, (by first | rfl | simp [hn]), by simpa [upd] using s0, by simpa [upd] using s2, by simpa [upd] using s8, by simpa [upd] using s4, by simpa [upd] using x4, by simpa [upd] using s6, by simpa [upd] using x6, ?_, ?_, ?_, ?_, ?_, ?_, ?_, ?_, ?_⟩
      · exact fun h => by first | (simpa [upd] using g0 (by simpa using h)) | (simp [upd, rC3]; done) | (simp_all [upd, rC3]; done)
      · exact fun h => by first | (simpa [upd] using g1 (by simpa using h)) | (simp [upd, rC3]; done) | (simp_all [upd, rC3]; done)
      · exact fun h => by first | (simpa [upd] using g2 (by simpa using h)) | (simp [upd, rC3]; done) | (simp_all [upd, rC3]; done)
      · exact fun h => by first | (simpa [upd] using g3 (by simpa using h)) | (simp [upd, rC3]; done) | (simp_all [upd, rC3]; done)
      · exact fun h => by first | (simpa [upd] using g4 (by simpa using h)) | (simp [upd, rC3]; done) | (simp_all [upd, rC3]; done)
      · exact fun h => by first | (simpa [upd] using g5 (by simpa using h)) | (simp [upd, rC3]; done) | (simp_all [upd, rC3]; done)
      · exact fun h => by first | (simpa [upd] using g6 (by simpa using h)) | (simp [upd, rC3]; done) | (simp_all [upd, rC3]; done)
      · exact fun h => by first | (simpa [upd] using g7 (by simpa using h)) | (simp [upd, rC3]; done) | (simp_all [upd, rC3]; done)
      · exact fun h => by first | (simpa [upd] using g8 (by simpa using h)) | (simp [upd, rC3]; done) | (simp_all [upd, rC3]; done)
    · simp [upd, hn, s0, s2, s8, s4, x4, s6, x6, rC3, hL]
      refine ⟨b4, b6, b9, bm, (by first | rfl | simp [hn]), by simpa [upd] using s0, by simpa [upd] using s2, by simpa [upd] using s8, by simpa [upd] using s4, by simpa [upd] using x4, by simpa [upd] using s6, by simpa [upd] using x6, ?_, ?_, ?_, ?_, ?_, ?_, ?_, ?_, ?_⟩
      · exact fun h => by first | (simpa [upd] using g0 (by simpa using h)) | (simp [upd, rC3]; done) | (simp_all [upd, rC3]; done)
      · exact fun h => by first | (simpa [upd] using g1 (by simpa using h)) | (simp [upd, rC3]; done) | (simp_all [upd, rC3]; done)
      · exact fun h => by first | (simpa [upd] using g2 (by simpa using h)) | (simp [upd, rC3]; done) | (simp_all [upd, rC3]; done)
      · exact fun h => by first | (simpa [upd] using g3 (by simpa using h)) | (simp [upd, rC3]; done) | (simp_all [upd, rC3]; done)
      · exact fun h => by first | (simpa [upd] using g4 (by simpa using h)) | (simp [upd, rC3]; done) | (simp_all [upd, rC3]; done)
      · exact fun h => by first | (simpa [upd] using g5 (by simpa using h)) | (simp [upd, rC3]; done) | (simp_all [upd, rC3]; done)
      · exact fun h => by first | (simpa [upd] using g6 (by simpa using h)) | (simp [upd, rC3]; done) | (simp_all [upd, rC3]; done)
      · exact fun h => by first | (simpa [upd] using g7 (by simpa using h)) | (simp [upd, rC3]; done) | (simp_all [upd, rC3]; done)
      · exact fun h => by first | (simpa [upd] using g8 (by simpa using h)) | (simp [upd, rC3]; done) | (simp_all [upd, rC3]; done)
    · have n8 : L 8 = false := by
        cases h : L 8 with
        | false => rfl
        | true => exact absurd (g8 h).1 (by simp [hL])
      simp [upd, hn, g4 hA, rC3]
      refine CallK.fresh ha [100] (fun β => .c (.map 100 (β 0))) (Wks.refl _) (fun β => Wk.map _ _ _) (fun _ => rfl) ?_
      intro β
      simp [upd]
      refine ⟨b4, b6, b9, β 0, (by first | rfl | simp [hn]), by simpa [upd] using s0, by simpa [upd] using s2, by simpa [upd] using s8, by simpa [upd] using s4, by simpa [upd] using x4, by simpa [upd] using s6, by simpa [upd] using x6, ?_, ?_, ?_, ?_, ?_, ?_, ?_, ?_, ?_⟩
      · exact fun h => by first | (simpa [upd] using g0 (by simpa using h)) | (simp [upd, rC3]; done) | (simp_all [upd, rC3]; done)
      · exact fun h => by first | (simpa [upd] using g1 (by simpa using h)) | (simp [upd, rC3]; done) | (simp_all [upd, rC3]; done)
      · exact fun h => by first | (simpa [upd] using g2 (by simpa using h)) | (simp [upd, rC3]; done) | (simp_all [upd, rC3]; done)
      · exact fun h => by first | (simpa [upd] using g3 (by simpa using h)) | (simp [upd, rC3]; done) | (simp_all [upd, rC3]; done)
      · exact fun h => by first | (simpa [upd] using g4 (by simpa using h)) | (simp [upd, rC3]; done) | (simp_all [upd, rC3]; done)
      · exact fun h => by first | (simpa [upd] using g5 (by simpa using h)) | (simp [upd, rC3]; done) | (simp_all [upd, rC3]; done)
      · exact fun h => by first | (simpa [upd] using g6 (by simpa using h)) | (simp [upd, rC3]; done) | (simp_all [upd, rC3]; done)
      · exact fun h => by first | (simpa [upd] using g7 (by simpa using h)) | (simp [upd, rC3]; done) | (simp_all [upd, rC3]; done)
      · exact fun h => by first | (simpa [upd] using g8 (by simpa using h)) | (simp [upd, rC3]; done) | (simp_all [upd, rC3]; done)
    · have n7 : L 7 = false := by
        cases h : L 7 with
        | false => rfl
        | true => exact absurd (g7 h).1 (by simp [hL])
      simp [upd, hn]
      intro β
      refine ⟨b4, b6, β, bm, (by first | rfl | simp [hn]), by simpa [upd] using s0, by simpa [upd] using s2, by simpa [upd] using s8, by simpa [upd] using s4, by simpa [upd] using x4, by simpa [upd] using s6, by simpa [upd] using x6, ?_, ?_, ?_, ?_, ?_, ?_, ?_, ?_, ?_⟩
      · exact fun h => by first | (simpa [upd] using g0 (by simpa using h)) | (simp [upd, rC3]; done) | (simp_all [upd, rC3]; done)
      · exact fun h => by first | (simpa [upd] using g1 (by simpa using h)) | (simp [upd, rC3]; done) | (simp_all [upd, rC3]; done)
      · exact fun h => by first | (simpa [upd] using g2 (by simpa using h)) | (simp [upd, rC3]; done) | (simp_all [upd, rC3]; done)
      · exact fun h => by first | (simpa [upd] using g3 (by simpa using h)) | (simp [upd, rC3]; done) | (simp_all [upd, rC3]; done)
      · exact fun h => by first | (simpa [upd] using g4 (by simpa using h)) | (simp [upd, rC3]; done) | (simp_all [upd, rC3]; done)
      · exact fun h => by first | (simpa [upd] using g5 (by simpa using h)) | (simp [upd, rC3]; done) | (simp_all [upd, rC3]; done)
      · exact fun h => by first | (simpa [upd] using g6 (by simpa using h)) | (simp [upd, rC3]; done) | (simp_all [upd, rC3]; done)
      · exact fun h => by first | (simpa [upd] using g7 (by simpa using h)) | (simp [upd, rC3]; done) | (simp_all [upd, rC3]; done)
      · exact fun h => by first | (simpa [upd] using g8 (by simpa using h)) | (simp [upd, rC3]; done) | (simp_all [upd, rC3]; done)
    · have q := g3 hA.2.1
      have q6 := g6 hA.1
      obtain ⟨q61, z, zl, zo, q62⟩ := q6
      simp [upd, hn, q, q61, q62, zl, zo]
      refine ⟨b4, b6, b9, bm, (by first | rfl | simp [hn]), by simpa [upd] using s0, by simpa [upd] using s2, by simpa [upd] using s8, by simpa [upd] using s4, by simpa [upd] using x4, by simpa [upd] using s6, by simpa [upd] using x6, ?_, ?_, ?_, ?_, ?_, ?_, ?_, ?_, ?_⟩
      · exact fun h => by first | (simpa [upd] using g0 (by simpa using h)) | (simp [upd, rC3]; done) | (simp_all [upd, rC3]; done)
      · exact fun h => by first | (simpa [upd] using g1 (by simpa using h)) | (simp [upd, rC3]; done) | (simp_all [upd, rC3]; done)
      · exact fun h => by first | (simpa [upd] using g2 (by simpa using h)) | (simp [upd, rC3]; done) | (simp_all [upd, rC3]; done)
      · exact fun h => by first | (simpa [upd] using g3 (by simpa using h)) | (simp [upd, rC3]; done) | (simp_all [upd, rC3]; done)
      · exact fun h => by first | (simpa [upd] using g4 (by simpa using h)) | (simp [upd, rC3]; done) | (simp_all [upd, rC3]; done)
      · exact fun h => by first | (simpa [upd] using g5 (by simpa using h)) | (simp [upd, rC3]; done) | (simp_all [upd, rC3]; done)
      · exact fun h => by first | (simpa [upd] using g6 (by simpa using h)) | (simp [upd, rC3]; done) | (simp_all [upd, rC3]; done)
      · exact fun h => by first | (simpa [upd] using g7 (by simpa using h)) | (simp [upd, rC3]; done) | (simp_all [upd, rC3]; done)
      · exact fun h => by first | (simpa [upd] using g8 (by simpa using h)) | (simp [upd, rC3]; done) | (simp_all [upd, rC3]; done)
    · have q := g5 hA.1
      simp [upd, hn, s0, s2, s8, s4, x4, s6, x6, rC3, q]
      refine ⟨b4, b6, b9, bm, (by first | rfl | simp [hn]), by simpa [upd] using s0, by simpa [upd] using s2, by simpa [upd] using s8, by simpa [upd] using s4, by simpa [upd] using x4, by simpa [upd] using s6, by simpa [upd] using x6, ?_, ?_, ?_, ?_, ?_, ?_, ?_, ?_, ?_⟩
      · exact fun h => by first | (simpa [upd] using g0 (by simpa using h)) | (simp [upd, rC3]; done) | (simp_all [upd, rC3]; done)
      · exact fun h => by first | (simpa [upd] using g1 (by simpa using h)) | (simp [upd, rC3]; done) | (simp_all [upd, rC3]; done)
      · exact fun h => by first | (simpa [upd] using g2 (by simpa using h)) | (simp [upd, rC3]; done) | (simp_all [upd, rC3]; done)
      · exact fun h => by first | (simpa [upd] using g3 (by simpa using h)) | (simp [upd, rC3]; done) | (simp_all [upd, rC3]; done)
      · exact fun h => by first | (simpa [upd] using g4 (by simpa using h)) | (simp [upd, rC3]; done) | (simp_all [upd, rC3]; done)
      · exact fun h => by first | (simpa [upd] using g5 (by simpa using h)) | (simp [upd, rC3]; done) | (simp_all [upd, rC3]; done)
      · exact fun h => by first | (simpa [upd] using g6 (by simpa using h)) | (simp [upd, rC3]; done) | (simp_all [upd, rC3]; done)
      · exact fun h => by first | (simpa [upd] using g7 (by simpa using h)) | (simp [upd, rC3]; done) | (simp_all [upd, rC3]; done)
      · exact fun h => by first | (simpa [upd] using g8 (by simpa using h)) | (simp [upd, rC3]; done) | (simp_all [upd, rC3]; done)
  · rintro L st hL ⟨b4, b6, b9, bm, hn, s0, s2, s8, s4, x4, s6, x6, -, -, -, -, -, g5, g6, g7, g8⟩
    have x100 := (g5 (hL 5 (by decide))).2
    have s9 := (g6 (hL 6 (by decide))).1
    have x9 := (g7 (hL 7 (by decide))).2
    have s10 := (g8 (hL 8 (by decide))).2
    clear g5 g6 g7 g8
    show K st
    apply hK
    clear hK
    have hc := complete_does l[i] r hf hs0 hs1
    have hcb := comp_b hf hs0 hs1
    have hcn : compI l[i] r.slots = (((compI l[i] r.slots).toNat : Nat) : Int) := by omega
    have hfl := fault_ok hf
    simp only [recC] at hc
    unfold rC3 at x4
    repeat (first
      | (refine Tri.seq fun K hK => ?_)
      | (refine Tri.region ?_; simp [upd, hn, s0, s2, s8, s4, x4, s6, x6, x100, s9, x9, s10])
      | (refine Tri.draw (by kernel_rfl) (by decide +kernel) ?_; simp [upd, hn, s0, s2, s8, s4, x4, s6, x6, x100, s9, x9, s10])
      | (refine Tri.cond_true ?_ ?_; (focus simp [upd, hn, s0, s2, s8, s4, x4, s6, x6, x100, s9, x9, s10]; done))
      | (refine Tri.cond_false ?_ ?_; (focus simp [upd, hn, s0, s2, s8, s4, x4, s6, x6, x100, s9, x9, s10]; done))
      | (refine Tri.skip ?_; simp only [thenS, blockS])
      | (refine Tri.block_seq ?_)
      | (refine Tri.block_region ?_)
      | (refine Tri.block_cond ?_)
      | ((with_reducible refine CallK.pure (hc) (Wks.refl _) ?_); simp [upd, hn, s0, s2, s8, s4, x4, s6, x6, x100, s9, x9, s10])
      | (refine Tri.exit ?_; simp [upd, hn, s0, s2, s8, s4, x4, s6, x6, x100, s9, x9, s10]; first | (rename ∀ st, Tri _ _ _ st _ → _ => hK; first | (apply hK; clear hK) | (clear hK; rename ∀ st, Tri _ _ _ st _ → _ => hK; first | (apply hK; clear hK) | (clear hK; rename ∀ st, Tri _ _ _ st _ → _ => hK; first | (apply hK; clear hK) | (clear hK; rename ∀ st, Tri _ _ _ st _ → _ => hK; first | (apply hK; clear hK) | (clear hK; rename ∀ st, Tri _ _ _ st _ → _ => hK; first | (apply hK; clear hK) | (clear hK; rename ∀ st, Tri _ _ _ st _ → _ => hK; apply hK; clear hK)))))) | skip)
      | (intro β)
      | (rename ∀ st, Tri _ _ _ st _ → _ => hK; apply hK; clear hK))
    rw [hcn]
    refine Tri.range 41 40 42 87 119 rfl rfl (compI l[i] r.slots).toNat (V1 l r l[i].id l[i] ents) (by simp) (by omega) ?_ rfl (by simp [upd]) (by simp [upd]) ?_ ?_ ?_
    · rintro k st t v ht ⟨b4, b6, b11, b9, bm, h, s9, x9, s10, x100⟩
      refine ⟨b4, b6, b11, b9, bm, h.put t v (by omega), ?_, x9, ?_, x100⟩
      · rcases ht with rfl | rfl | rfl <;> simpa [upd] using s9
      · rcases ht with rfl | rfl | rfl <;> simpa [upd] using s10
    · exact ⟨b4, b6, _, b9, bm, ⟨rfl, by simp [upd, s2], by simp [upd, s4], by simp [upd, x4, rC3], by simp [upd, s6], by simp [upd, x6], by simp [upd] <;> exact rfl, by simp [upd, svZ, ← hcn] <;> exact rfl⟩, by simp [upd, s9], by simp [upd, x9], by simp [upd, s10], by simp [upd, x100]⟩
    · rintro k st hk ⟨b4, b6, b11, b9, bm, ⟨-, s2, s4, x4, s6, x6, s11, x11⟩, s9, x9, s10, x100⟩ hn h41 h40
      have hnx := range_succ_foldl (svF l[i] r.dels) { svZ with frames := compI l[i] r.slots } k
      obtain ⟨-, -, -, hb1, hb2⟩ := sv_fr l[i] r.dels { svZ with frames := compI l[i] r.slots } k
      generalize (List.range k).foldl (svF l[i] r.dels) { svZ with frames := compI l[i] r.slots } = x at *
      simp only [svZ] at hb1 hb2
      have hk1 : (k : Int) < (((compI l[i] r.slots).toNat : Nat) : Int) := by omega
      have hin := arrI_in (f := l[i]) (k := k) (l := slotsOf l[i].id k r.dels)
      have hrb := relI_b (k := k) hfl (by omega) (by omega)
      have hrl := rel_lo (k := k) hfl (by omega) (by omega)
      obtain ⟨-, -, -, -, p1, p2, q0, q1, d1, d2, -⟩ := hfl
      have w1 : IntKind.i64.wrap (x.late + 1) = x.late + 1 := wrap_i64 (by omega) (by omega)
      have w2 : IntKind.i64.wrap ((k : Int) * l[i].per) = (k : Int) * l[i].per := wrap_i64 (by omega) (by omega)
      rw [svF] at hnx
      simp only [relI] at hin hrb
      rcases hlook k with ⟨hE, hem⟩ | ⟨i', hi', f', n', hE, he⟩
      · have hA := arrival_at0 l[i] k r hf (by omega) (by omega) hem
        cases hb : (arrI l[i] k (slotsOf l[i].id k r.dels)).2
        case false =>
          rw [hb] at hA hnx
          rw [if_neg (by simp)] at hnx
          repeat (first
            | (refine Tri.seq fun K hK => ?_)
            | (refine Tri.region ?_; simp [upd, hn, s2, s4, x4, s6, x6, s11, x11, s9, x9, s10, x100, h41, h40, hk, hk1, w1, w2, hE])
            | (refine Tri.draw (by kernel_rfl) (by decide +kernel) ?_; simp [upd, hn, s2, s4, x4, s6, x6, s11, x11, s9, x9, s10, x100, h41, h40, hk, hk1, w1, w2, hE])
            | (refine Tri.draw2 [] [0, 1, 2, 3, 4, 5, 6, 7, 8, 9, 10, 11, 12] [] [] (by kernel_rfl) (by kernel_rfl) (by decide) (by rfl) (by decide +kernel) ?_; simp [upd, hn, s2, s4, x4, s6, x6, s11, x11, s9, x9, s10, x100, h41, h40, hk, hk1, w1, w2, hE])
            | (refine Tri.cond_true ?_ ?_; (focus simp [upd, hn, s2, s4, x4, s6, x6, s11, x11, s9, x9, s10, x100, h41, h40, hk, hk1, w1, w2, hE]; done))
            | (refine Tri.cond_false ?_ ?_; (focus simp [upd, hn, s2, s4, x4, s6, x6, s11, x11, s9, x9, s10, x100, h41, h40, hk, hk1, w1, w2, hE]; done))
            | (refine Tri.skip ?_; simp only [thenS, blockS])
            | (refine Tri.block_seq ?_)
            | (refine Tri.block_region ?_)
            | (refine Tri.block_cond ?_)
            | (refine CallK.pure hA (⟨.refl _, .refl _, .nil _ _ _ _, trivial⟩) ?_; simp [upd, hn, s2, s4, x4, s6, x6, s11, x11, s9, x9, s10, x100, h41, h40, hk, hk1, w1, w2, hE])
            | (refine Tri.exit ?_; simp [upd, hn, s2, s4, x4, s6, x6, s11, x11, s9, x9, s10, x100, h41, h40, hk, hk1, w1, w2, hE]; first | (rename ∀ st, Tri _ _ _ st _ → _ => hK; first | (apply hK; clear hK) | (clear hK; rename ∀ st, Tri _ _ _ st _ → _ => hK; first | (apply hK; clear hK) | (clear hK; rename ∀ st, Tri _ _ _ st _ → _ => hK; first | (apply hK; clear hK) | (clear hK; rename ∀ st, Tri _ _ _ st _ → _ => hK; first | (apply hK; clear hK) | (clear hK; rename ∀ st, Tri _ _ _ st _ → _ => hK; first | (apply hK; clear hK) | (clear hK; rename ∀ st, Tri _ _ _ st _ → _ => hK; apply hK; clear hK)))))) | skip)
            | (intro β)
            | (rename ∀ st, Tri _ _ _ st _ → _ => hK; apply hK; clear hK))
          exact ⟨b4, b6, b11, b9, bm, ⟨rfl, by simp [upd, s2], by simp [upd, s4], by simp [upd, x4], by simp [upd, s6], by simp [upd, x6], by simp [upd, s11], by rw [hnx]; simp [upd, svL, w1]⟩, by simp [upd, s9], by simp [upd, x9], by simp [upd, s10], by simp [upd, x100]⟩
        case true =>
          have hin := hin hb
          rw [hb] at hA hnx
          rw [if_pos rfl] at hnx
          generalize (arrI l[i] k (slotsOf l[i].id k r.dels)).1 = s0 at *
          have w3 : IntKind.i64.wrap (s0 - l[i].pha) = s0 - l[i].pha := wrap_i64 (by omega) (by omega)
          have w4 : IntKind.i64.wrap (s0 - l[i].pha - (k : Int) * l[i].per) = s0 - l[i].pha - (k : Int) * l[i].per := wrap_i64 (by omega) (by omega)
          have w5 : IntKind.i64.wrap (s0 - l[i].pha - (k : Int) * l[i].per + 1) = s0 - l[i].pha - (k : Int) * l[i].per + 1 := wrap_i64 (by omega) (by omega)
          generalize hlat : s0 - l[i].pha - (k : Int) * l[i].per + 1 = lat at *
          by_cases m1 : x.most < lat
          · cases m2 : (x.least == 0)
            · by_cases m3 : lat < x.least
              · repeat (first
                  | (refine Tri.seq fun K hK => ?_)
                  | (refine Tri.region ?_; simp [upd, hn, s2, s4, x4, s6, x6, s11, x11, s9, x9, s10, x100, h41, h40, hk, hk1, w1, w2, w3, w4, w5, hlat, m1, m2, m3, hE])
                  | (refine Tri.draw (by kernel_rfl) (by decide +kernel) ?_; simp [upd, hn, s2, s4, x4, s6, x6, s11, x11, s9, x9, s10, x100, h41, h40, hk, hk1, w1, w2, w3, w4, w5, hlat, m1, m2, m3, hE])
                  | (refine Tri.draw2 [] [0, 1, 2, 3, 4, 5, 6, 7, 8, 9, 10, 11, 12] [] [] (by kernel_rfl) (by kernel_rfl) (by decide) (by rfl) (by decide +kernel) ?_; simp [upd, hn, s2, s4, x4, s6, x6, s11, x11, s9, x9, s10, x100, h41, h40, hk, hk1, w1, w2, w3, w4, w5, hlat, m1, m2, m3, hE])
                  | (refine Tri.cond_true ?_ ?_; (focus simp [upd, hn, s2, s4, x4, s6, x6, s11, x11, s9, x9, s10, x100, h41, h40, hk, hk1, w1, w2, w3, w4, w5, hlat, m1, m2, m3, hE]; done))
                  | (refine Tri.cond_false ?_ ?_; (focus simp [upd, hn, s2, s4, x4, s6, x6, s11, x11, s9, x9, s10, x100, h41, h40, hk, hk1, w1, w2, w3, w4, w5, hlat, m1, m2, m3, hE]; done))
                  | (refine Tri.skip ?_; simp only [thenS, blockS])
                  | (refine Tri.block_seq ?_)
                  | (refine Tri.block_region ?_)
                  | (refine Tri.block_cond ?_)
                  | (refine CallK.pure hA (⟨.refl _, .refl _, .nil _ _ _ _, trivial⟩) ?_; simp [upd, hn, s2, s4, x4, s6, x6, s11, x11, s9, x9, s10, x100, h41, h40, hk, hk1, w1, w2, w3, w4, w5, hlat, m1, m2, m3, hE])
                  | (refine Tri.exit ?_; simp [upd, hn, s2, s4, x4, s6, x6, s11, x11, s9, x9, s10, x100, h41, h40, hk, hk1, w1, w2, w3, w4, w5, hlat, m1, m2, m3, hE]; first | (rename ∀ st, Tri _ _ _ st _ → _ => hK; first | (apply hK; clear hK) | (clear hK; rename ∀ st, Tri _ _ _ st _ → _ => hK; first | (apply hK; clear hK) | (clear hK; rename ∀ st, Tri _ _ _ st _ → _ => hK; first | (apply hK; clear hK) | (clear hK; rename ∀ st, Tri _ _ _ st _ → _ => hK; first | (apply hK; clear hK) | (clear hK; rename ∀ st, Tri _ _ _ st _ → _ => hK; first | (apply hK; clear hK) | (clear hK; rename ∀ st, Tri _ _ _ st _ → _ => hK; apply hK; clear hK)))))) | skip)
                  | (intro β)
                  | (rename ∀ st, Tri _ _ _ st _ → _ => hK; apply hK; clear hK))
                exact ⟨b4, b6, b11, b9, bm, ⟨rfl, by simp [upd, s2], by simp [upd, s4], by simp [upd, x4], by simp [upd, s6], by simp [upd, x6], by simp [upd, s11], by rw [hnx]; simp [upd, svL, m1, (show ¬ x.least = 0 by simpa using m2), m3]⟩, by simp [upd, s9], by simp [upd, x9], by simp [upd, s10], by simp [upd, x100]⟩
              · repeat (first
                  | (refine Tri.seq fun K hK => ?_)
                  | (refine Tri.region ?_; simp [upd, hn, s2, s4, x4, s6, x6, s11, x11, s9, x9, s10, x100, h41, h40, hk, hk1, w1, w2, w3, w4, w5, hlat, m1, m2, m3, hE])
                  | (refine Tri.draw (by kernel_rfl) (by decide +kernel) ?_; simp [upd, hn, s2, s4, x4, s6, x6, s11, x11, s9, x9, s10, x100, h41, h40, hk, hk1, w1, w2, w3, w4, w5, hlat, m1, m2, m3, hE])
                  | (refine Tri.draw2 [] [0, 1, 2, 3, 4, 5, 6, 7, 8, 9, 10, 11, 12] [] [] (by kernel_rfl) (by kernel_rfl) (by decide) (by rfl) (by decide +kernel) ?_; simp [upd, hn, s2, s4, x4, s6, x6, s11, x11, s9, x9, s10, x100, h41, h40, hk, hk1, w1, w2, w3, w4, w5, hlat, m1, m2, m3, hE])
                  | (refine Tri.cond_true ?_ ?_; (focus simp [upd, hn, s2, s4, x4, s6, x6, s11, x11, s9, x9, s10, x100, h41, h40, hk, hk1, w1, w2, w3, w4, w5, hlat, m1, m2, m3, hE]; done))
                  | (refine Tri.cond_false ?_ ?_; (focus simp [upd, hn, s2, s4, x4, s6, x6, s11, x11, s9, x9, s10, x100, h41, h40, hk, hk1, w1, w2, w3, w4, w5, hlat, m1, m2, m3, hE]; done))
                  | (refine Tri.skip ?_; simp only [thenS, blockS])
                  | (refine Tri.block_seq ?_)
                  | (refine Tri.block_region ?_)
                  | (refine Tri.block_cond ?_)
                  | (refine CallK.pure hA (⟨.refl _, .refl _, .nil _ _ _ _, trivial⟩) ?_; simp [upd, hn, s2, s4, x4, s6, x6, s11, x11, s9, x9, s10, x100, h41, h40, hk, hk1, w1, w2, w3, w4, w5, hlat, m1, m2, m3, hE])
                  | (refine Tri.exit ?_; simp [upd, hn, s2, s4, x4, s6, x6, s11, x11, s9, x9, s10, x100, h41, h40, hk, hk1, w1, w2, w3, w4, w5, hlat, m1, m2, m3, hE]; first | (rename ∀ st, Tri _ _ _ st _ → _ => hK; first | (apply hK; clear hK) | (clear hK; rename ∀ st, Tri _ _ _ st _ → _ => hK; first | (apply hK; clear hK) | (clear hK; rename ∀ st, Tri _ _ _ st _ → _ => hK; first | (apply hK; clear hK) | (clear hK; rename ∀ st, Tri _ _ _ st _ → _ => hK; first | (apply hK; clear hK) | (clear hK; rename ∀ st, Tri _ _ _ st _ → _ => hK; first | (apply hK; clear hK) | (clear hK; rename ∀ st, Tri _ _ _ st _ → _ => hK; apply hK; clear hK)))))) | skip)
                  | (intro β)
                  | (rename ∀ st, Tri _ _ _ st _ → _ => hK; apply hK; clear hK))
                refine ⟨⟨b4, b6, b11, b9, bm, ⟨rfl, by simp [upd, s2], by simp [upd, s4], by simp [upd, x4], by simp [upd, s6], by simp [upd, x6], by simp [upd, s11], by rw [hnx]; simp [upd, svL, m1, (show ¬ x.least = 0 by simpa using m2), m3]⟩, by simp [upd, s9], by simp [upd, x9], by simp [upd, s10], by simp [upd, x100]⟩, ?_⟩
                simp [upd, h41, h40]
            · repeat (first
                | (refine Tri.seq fun K hK => ?_)
                | (refine Tri.region ?_; simp [upd, hn, s2, s4, x4, s6, x6, s11, x11, s9, x9, s10, x100, h41, h40, hk, hk1, w1, w2, w3, w4, w5, hlat, m1, m2, hE])
                | (refine Tri.draw (by kernel_rfl) (by decide +kernel) ?_; simp [upd, hn, s2, s4, x4, s6, x6, s11, x11, s9, x9, s10, x100, h41, h40, hk, hk1, w1, w2, w3, w4, w5, hlat, m1, m2, hE])
                | (refine Tri.draw2 [] [0, 1, 2, 3, 4, 5, 6, 7, 8, 9, 10, 11, 12] [] [] (by kernel_rfl) (by kernel_rfl) (by decide) (by rfl) (by decide +kernel) ?_; simp [upd, hn, s2, s4, x4, s6, x6, s11, x11, s9, x9, s10, x100, h41, h40, hk, hk1, w1, w2, w3, w4, w5, hlat, m1, m2, hE])
                | (refine Tri.cond_true ?_ ?_; (focus simp [upd, hn, s2, s4, x4, s6, x6, s11, x11, s9, x9, s10, x100, h41, h40, hk, hk1, w1, w2, w3, w4, w5, hlat, m1, m2, hE]; done))
                | (refine Tri.cond_false ?_ ?_; (focus simp [upd, hn, s2, s4, x4, s6, x6, s11, x11, s9, x9, s10, x100, h41, h40, hk, hk1, w1, w2, w3, w4, w5, hlat, m1, m2, hE]; done))
                | (refine Tri.skip ?_; simp only [thenS, blockS])
                | (refine Tri.block_seq ?_)
                | (refine Tri.block_region ?_)
                | (refine Tri.block_cond ?_)
                | (refine CallK.pure hA (⟨.refl _, .refl _, .nil _ _ _ _, trivial⟩) ?_; simp [upd, hn, s2, s4, x4, s6, x6, s11, x11, s9, x9, s10, x100, h41, h40, hk, hk1, w1, w2, w3, w4, w5, hlat, m1, m2, hE])
                | (refine Tri.exit ?_; simp [upd, hn, s2, s4, x4, s6, x6, s11, x11, s9, x9, s10, x100, h41, h40, hk, hk1, w1, w2, w3, w4, w5, hlat, m1, m2, hE]; first | (rename ∀ st, Tri _ _ _ st _ → _ => hK; first | (apply hK; clear hK) | (clear hK; rename ∀ st, Tri _ _ _ st _ → _ => hK; first | (apply hK; clear hK) | (clear hK; rename ∀ st, Tri _ _ _ st _ → _ => hK; first | (apply hK; clear hK) | (clear hK; rename ∀ st, Tri _ _ _ st _ → _ => hK; first | (apply hK; clear hK) | (clear hK; rename ∀ st, Tri _ _ _ st _ → _ => hK; first | (apply hK; clear hK) | (clear hK; rename ∀ st, Tri _ _ _ st _ → _ => hK; apply hK; clear hK)))))) | skip)
                | (intro β)
                | (rename ∀ st, Tri _ _ _ st _ → _ => hK; apply hK; clear hK))
              exact ⟨b4, b6, b11, b9, bm, ⟨rfl, by simp [upd, s2], by simp [upd, s4], by simp [upd, x4], by simp [upd, s6], by simp [upd, x6], by simp [upd, s11], by rw [hnx]; simp [upd, svL, m1, (show x.least = 0 by simpa using m2)]⟩, by simp [upd, s9], by simp [upd, x9], by simp [upd, s10], by simp [upd, x100]⟩
          · cases m2 : (x.least == 0)
            · by_cases m3 : lat < x.least
              · repeat (first
                  | (refine Tri.seq fun K hK => ?_)
                  | (refine Tri.region ?_; simp [upd, hn, s2, s4, x4, s6, x6, s11, x11, s9, x9, s10, x100, h41, h40, hk, hk1, w1, w2, w3, w4, w5, hlat, m1, m2, m3, hE])
                  | (refine Tri.draw (by kernel_rfl) (by decide +kernel) ?_; simp [upd, hn, s2, s4, x4, s6, x6, s11, x11, s9, x9, s10, x100, h41, h40, hk, hk1, w1, w2, w3, w4, w5, hlat, m1, m2, m3, hE])
                  | (refine Tri.draw2 [] [0, 1, 2, 3, 4, 5, 6, 7, 8, 9, 10, 11, 12] [] [] (by kernel_rfl) (by kernel_rfl) (by decide) (by rfl) (by decide +kernel) ?_; simp [upd, hn, s2, s4, x4, s6, x6, s11, x11, s9, x9, s10, x100, h41, h40, hk, hk1, w1, w2, w3, w4, w5, hlat, m1, m2, m3, hE])
                  | (refine Tri.cond_true ?_ ?_; (focus simp [upd, hn, s2, s4, x4, s6, x6, s11, x11, s9, x9, s10, x100, h41, h40, hk, hk1, w1, w2, w3, w4, w5, hlat, m1, m2, m3, hE]; done))
                  | (refine Tri.cond_false ?_ ?_; (focus simp [upd, hn, s2, s4, x4, s6, x6, s11, x11, s9, x9, s10, x100, h41, h40, hk, hk1, w1, w2, w3, w4, w5, hlat, m1, m2, m3, hE]; done))
                  | (refine Tri.skip ?_; simp only [thenS, blockS])
                  | (refine Tri.block_seq ?_)
                  | (refine Tri.block_region ?_)
                  | (refine Tri.block_cond ?_)
                  | (refine CallK.pure hA (⟨.refl _, .refl _, .nil _ _ _ _, trivial⟩) ?_; simp [upd, hn, s2, s4, x4, s6, x6, s11, x11, s9, x9, s10, x100, h41, h40, hk, hk1, w1, w2, w3, w4, w5, hlat, m1, m2, m3, hE])
                  | (refine Tri.exit ?_; simp [upd, hn, s2, s4, x4, s6, x6, s11, x11, s9, x9, s10, x100, h41, h40, hk, hk1, w1, w2, w3, w4, w5, hlat, m1, m2, m3, hE]; first | (rename ∀ st, Tri _ _ _ st _ → _ => hK; first | (apply hK; clear hK) | (clear hK; rename ∀ st, Tri _ _ _ st _ → _ => hK; first | (apply hK; clear hK) | (clear hK; rename ∀ st, Tri _ _ _ st _ → _ => hK; first | (apply hK; clear hK) | (clear hK; rename ∀ st, Tri _ _ _ st _ → _ => hK; first | (apply hK; clear hK) | (clear hK; rename ∀ st, Tri _ _ _ st _ → _ => hK; first | (apply hK; clear hK) | (clear hK; rename ∀ st, Tri _ _ _ st _ → _ => hK; apply hK; clear hK)))))) | skip)
                  | (intro β)
                  | (rename ∀ st, Tri _ _ _ st _ → _ => hK; apply hK; clear hK))
                exact ⟨b4, b6, b11, b9, bm, ⟨rfl, by simp [upd, s2], by simp [upd, s4], by simp [upd, x4], by simp [upd, s6], by simp [upd, x6], by simp [upd, s11], by rw [hnx]; simp [upd, svL, m1, (show ¬ x.least = 0 by simpa using m2), m3]⟩, by simp [upd, s9], by simp [upd, x9], by simp [upd, s10], by simp [upd, x100]⟩
              · repeat (first
                  | (refine Tri.seq fun K hK => ?_)
                  | (refine Tri.region ?_; simp [upd, hn, s2, s4, x4, s6, x6, s11, x11, s9, x9, s10, x100, h41, h40, hk, hk1, w1, w2, w3, w4, w5, hlat, m1, m2, m3, hE])
                  | (refine Tri.draw (by kernel_rfl) (by decide +kernel) ?_; simp [upd, hn, s2, s4, x4, s6, x6, s11, x11, s9, x9, s10, x100, h41, h40, hk, hk1, w1, w2, w3, w4, w5, hlat, m1, m2, m3, hE])
                  | (refine Tri.draw2 [] [0, 1, 2, 3, 4, 5, 6, 7, 8, 9, 10, 11, 12] [] [] (by kernel_rfl) (by kernel_rfl) (by decide) (by rfl) (by decide +kernel) ?_; simp [upd, hn, s2, s4, x4, s6, x6, s11, x11, s9, x9, s10, x100, h41, h40, hk, hk1, w1, w2, w3, w4, w5, hlat, m1, m2, m3, hE])
                  | (refine Tri.cond_true ?_ ?_; (focus simp [upd, hn, s2, s4, x4, s6, x6, s11, x11, s9, x9, s10, x100, h41, h40, hk, hk1, w1, w2, w3, w4, w5, hlat, m1, m2, m3, hE]; done))
                  | (refine Tri.cond_false ?_ ?_; (focus simp [upd, hn, s2, s4, x4, s6, x6, s11, x11, s9, x9, s10, x100, h41, h40, hk, hk1, w1, w2, w3, w4, w5, hlat, m1, m2, m3, hE]; done))
                  | (refine Tri.skip ?_; simp only [thenS, blockS])
                  | (refine Tri.block_seq ?_)
                  | (refine Tri.block_region ?_)
                  | (refine Tri.block_cond ?_)
                  | (refine CallK.pure hA (⟨.refl _, .refl _, .nil _ _ _ _, trivial⟩) ?_; simp [upd, hn, s2, s4, x4, s6, x6, s11, x11, s9, x9, s10, x100, h41, h40, hk, hk1, w1, w2, w3, w4, w5, hlat, m1, m2, m3, hE])
                  | (refine Tri.exit ?_; simp [upd, hn, s2, s4, x4, s6, x6, s11, x11, s9, x9, s10, x100, h41, h40, hk, hk1, w1, w2, w3, w4, w5, hlat, m1, m2, m3, hE]; first | (rename ∀ st, Tri _ _ _ st _ → _ => hK; first | (apply hK; clear hK) | (clear hK; rename ∀ st, Tri _ _ _ st _ → _ => hK; first | (apply hK; clear hK) | (clear hK; rename ∀ st, Tri _ _ _ st _ → _ => hK; first | (apply hK; clear hK) | (clear hK; rename ∀ st, Tri _ _ _ st _ → _ => hK; first | (apply hK; clear hK) | (clear hK; rename ∀ st, Tri _ _ _ st _ → _ => hK; first | (apply hK; clear hK) | (clear hK; rename ∀ st, Tri _ _ _ st _ → _ => hK; apply hK; clear hK)))))) | skip)
                  | (intro β)
                  | (rename ∀ st, Tri _ _ _ st _ → _ => hK; apply hK; clear hK))
                refine ⟨⟨b4, b6, b11, b9, bm, ⟨rfl, by simp [upd, s2], by simp [upd, s4], by simp [upd, x4], by simp [upd, s6], by simp [upd, x6], by simp [upd, s11], by rw [hnx]; simp [upd, svL, m1, (show ¬ x.least = 0 by simpa using m2), m3]⟩, by simp [upd, s9], by simp [upd, x9], by simp [upd, s10], by simp [upd, x100]⟩, ?_⟩
                simp [upd, h41, h40]
            · repeat (first
                | (refine Tri.seq fun K hK => ?_)
                | (refine Tri.region ?_; simp [upd, hn, s2, s4, x4, s6, x6, s11, x11, s9, x9, s10, x100, h41, h40, hk, hk1, w1, w2, w3, w4, w5, hlat, m1, m2, hE])
                | (refine Tri.draw (by kernel_rfl) (by decide +kernel) ?_; simp [upd, hn, s2, s4, x4, s6, x6, s11, x11, s9, x9, s10, x100, h41, h40, hk, hk1, w1, w2, w3, w4, w5, hlat, m1, m2, hE])
                | (refine Tri.draw2 [] [0, 1, 2, 3, 4, 5, 6, 7, 8, 9, 10, 11, 12] [] [] (by kernel_rfl) (by kernel_rfl) (by decide) (by rfl) (by decide +kernel) ?_; simp [upd, hn, s2, s4, x4, s6, x6, s11, x11, s9, x9, s10, x100, h41, h40, hk, hk1, w1, w2, w3, w4, w5, hlat, m1, m2, hE])
                | (refine Tri.cond_true ?_ ?_; (focus simp [upd, hn, s2, s4, x4, s6, x6, s11, x11, s9, x9, s10, x100, h41, h40, hk, hk1, w1, w2, w3, w4, w5, hlat, m1, m2, hE]; done))
                | (refine Tri.cond_false ?_ ?_; (focus simp [upd, hn, s2, s4, x4, s6, x6, s11, x11, s9, x9, s10, x100, h41, h40, hk, hk1, w1, w2, w3, w4, w5, hlat, m1, m2, hE]; done))
                | (refine Tri.skip ?_; simp only [thenS, blockS])
                | (refine Tri.block_seq ?_)
                | (refine Tri.block_region ?_)
                | (refine Tri.block_cond ?_)
                | (refine CallK.pure hA (⟨.refl _, .refl _, .nil _ _ _ _, trivial⟩) ?_; simp [upd, hn, s2, s4, x4, s6, x6, s11, x11, s9, x9, s10, x100, h41, h40, hk, hk1, w1, w2, w3, w4, w5, hlat, m1, m2, hE])
                | (refine Tri.exit ?_; simp [upd, hn, s2, s4, x4, s6, x6, s11, x11, s9, x9, s10, x100, h41, h40, hk, hk1, w1, w2, w3, w4, w5, hlat, m1, m2, hE]; first | (rename ∀ st, Tri _ _ _ st _ → _ => hK; first | (apply hK; clear hK) | (clear hK; rename ∀ st, Tri _ _ _ st _ → _ => hK; first | (apply hK; clear hK) | (clear hK; rename ∀ st, Tri _ _ _ st _ → _ => hK; first | (apply hK; clear hK) | (clear hK; rename ∀ st, Tri _ _ _ st _ → _ => hK; first | (apply hK; clear hK) | (clear hK; rename ∀ st, Tri _ _ _ st _ → _ => hK; first | (apply hK; clear hK) | (clear hK; rename ∀ st, Tri _ _ _ st _ → _ => hK; apply hK; clear hK)))))) | skip)
                | (intro β)
                | (rename ∀ st, Tri _ _ _ st _ → _ => hK; apply hK; clear hK))
              exact ⟨b4, b6, b11, b9, bm, ⟨rfl, by simp [upd, s2], by simp [upd, s4], by simp [upd, x4], by simp [upd, s6], by simp [upd, x6], by simp [upd, s11], by rw [hnx]; simp [upd, svL, m1, (show x.least = 0 by simpa using m2)]⟩, by simp [upd, s9], by simp [upd, x9], by simp [upd, s10], by simp [upd, x100]⟩
      · have hA := arrival_at l[i] k r hf (by omega) (by omega) false
        cases hb : (arrI l[i] k (slotsOf l[i].id k r.dels)).2
        case false =>
          rw [hb] at hA hnx
          rw [if_neg (by simp)] at hnx
          repeat (first
            | (refine Tri.seq fun K hK => ?_)
            | (refine Tri.region ?_; simp [upd, hn, s2, s4, x4, s6, x6, s11, x11, s9, x9, s10, x100, h41, h40, hk, hk1, w1, w2, hE, hi', he])
            | (refine Tri.draw (by kernel_rfl) (by decide +kernel) ?_; simp [upd, hn, s2, s4, x4, s6, x6, s11, x11, s9, x9, s10, x100, h41, h40, hk, hk1, w1, w2, hE, hi', he])
            | (refine Tri.draw2 [] [0, 1, 2, 3, 4, 5, 6, 7, 8, 9, 10, 11, 12] [] [] (by kernel_rfl) (by kernel_rfl) (by decide) (by rfl) (by decide +kernel) ?_; simp [upd, hn, s2, s4, x4, s6, x6, s11, x11, s9, x9, s10, x100, h41, h40, hk, hk1, w1, w2, hE, hi', he])
            | (refine Tri.cond_true ?_ ?_; (focus simp [upd, hn, s2, s4, x4, s6, x6, s11, x11, s9, x9, s10, x100, h41, h40, hk, hk1, w1, w2, hE, hi', he]; done))
            | (refine Tri.cond_false ?_ ?_; (focus simp [upd, hn, s2, s4, x4, s6, x6, s11, x11, s9, x9, s10, x100, h41, h40, hk, hk1, w1, w2, hE, hi', he]; done))
            | (refine Tri.skip ?_; simp only [thenS, blockS])
            | (refine Tri.block_seq ?_)
            | (refine Tri.block_region ?_)
            | (refine Tri.block_cond ?_)
            | (refine CallK.pure hA (Wks.refl _) ?_; simp [upd, hn, s2, s4, x4, s6, x6, s11, x11, s9, x9, s10, x100, h41, h40, hk, hk1, w1, w2, hE, hi', he])
            | (refine Tri.exit ?_; simp [upd, hn, s2, s4, x4, s6, x6, s11, x11, s9, x9, s10, x100, h41, h40, hk, hk1, w1, w2, hE, hi', he]; first | (rename ∀ st, Tri _ _ _ st _ → _ => hK; first | (apply hK; clear hK) | (clear hK; rename ∀ st, Tri _ _ _ st _ → _ => hK; first | (apply hK; clear hK) | (clear hK; rename ∀ st, Tri _ _ _ st _ → _ => hK; first | (apply hK; clear hK) | (clear hK; rename ∀ st, Tri _ _ _ st _ → _ => hK; first | (apply hK; clear hK) | (clear hK; rename ∀ st, Tri _ _ _ st _ → _ => hK; first | (apply hK; clear hK) | (clear hK; rename ∀ st, Tri _ _ _ st _ → _ => hK; apply hK; clear hK)))))) | skip)
            | (intro β)
            | (rename ∀ st, Tri _ _ _ st _ → _ => hK; apply hK; clear hK))
          exact ⟨b4, b6, b11, b9, bm, ⟨rfl, by simp [upd, s2], by simp [upd, s4], by simp [upd, x4], by simp [upd, s6], by simp [upd, x6], by simp [upd, s11], by rw [hnx]; simp [upd, svL, w1]⟩, by simp [upd, s9], by simp [upd, x9], by simp [upd, s10], by simp [upd, x100]⟩
        case true =>
          have hin := hin hb
          rw [hb] at hA hnx
          rw [if_pos rfl] at hnx
          generalize (arrI l[i] k (slotsOf l[i].id k r.dels)).1 = s0 at *
          have w3 : IntKind.i64.wrap (s0 - l[i].pha) = s0 - l[i].pha := wrap_i64 (by omega) (by omega)
          have w4 : IntKind.i64.wrap (s0 - l[i].pha - (k : Int) * l[i].per) = s0 - l[i].pha - (k : Int) * l[i].per := wrap_i64 (by omega) (by omega)
          have w5 : IntKind.i64.wrap (s0 - l[i].pha - (k : Int) * l[i].per + 1) = s0 - l[i].pha - (k : Int) * l[i].per + 1 := wrap_i64 (by omega) (by omega)
          generalize hlat : s0 - l[i].pha - (k : Int) * l[i].per + 1 = lat at *
          by_cases m1 : x.most < lat
          · cases m2 : (x.least == 0)
            · by_cases m3 : lat < x.least
              · repeat (first
                  | (refine Tri.seq fun K hK => ?_)
                  | (refine Tri.region ?_; simp [upd, hn, s2, s4, x4, s6, x6, s11, x11, s9, x9, s10, x100, h41, h40, hk, hk1, w1, w2, w3, w4, w5, hlat, m1, m2, m3, hE, hi', he])
                  | (refine Tri.draw (by kernel_rfl) (by decide +kernel) ?_; simp [upd, hn, s2, s4, x4, s6, x6, s11, x11, s9, x9, s10, x100, h41, h40, hk, hk1, w1, w2, w3, w4, w5, hlat, m1, m2, m3, hE, hi', he])
                  | (refine Tri.draw2 [] [0, 1, 2, 3, 4, 5, 6, 7, 8, 9, 10, 11, 12] [] [] (by kernel_rfl) (by kernel_rfl) (by decide) (by rfl) (by decide +kernel) ?_; simp [upd, hn, s2, s4, x4, s6, x6, s11, x11, s9, x9, s10, x100, h41, h40, hk, hk1, w1, w2, w3, w4, w5, hlat, m1, m2, m3, hE, hi', he])
                  | (refine Tri.cond_true ?_ ?_; (focus simp [upd, hn, s2, s4, x4, s6, x6, s11, x11, s9, x9, s10, x100, h41, h40, hk, hk1, w1, w2, w3, w4, w5, hlat, m1, m2, m3, hE, hi', he]; done))
                  | (refine Tri.cond_false ?_ ?_; (focus simp [upd, hn, s2, s4, x4, s6, x6, s11, x11, s9, x9, s10, x100, h41, h40, hk, hk1, w1, w2, w3, w4, w5, hlat, m1, m2, m3, hE, hi', he]; done))
                  | (refine Tri.skip ?_; simp only [thenS, blockS])
                  | (refine Tri.block_seq ?_)
                  | (refine Tri.block_region ?_)
                  | (refine Tri.block_cond ?_)
                  | (refine CallK.pure hA (Wks.refl _) ?_; simp [upd, hn, s2, s4, x4, s6, x6, s11, x11, s9, x9, s10, x100, h41, h40, hk, hk1, w1, w2, w3, w4, w5, hlat, m1, m2, m3, hE, hi', he])
                  | (refine Tri.exit ?_; simp [upd, hn, s2, s4, x4, s6, x6, s11, x11, s9, x9, s10, x100, h41, h40, hk, hk1, w1, w2, w3, w4, w5, hlat, m1, m2, m3, hE, hi', he]; first | (rename ∀ st, Tri _ _ _ st _ → _ => hK; first | (apply hK; clear hK) | (clear hK; rename ∀ st, Tri _ _ _ st _ → _ => hK; first | (apply hK; clear hK) | (clear hK; rename ∀ st, Tri _ _ _ st _ → _ => hK; first | (apply hK; clear hK) | (clear hK; rename ∀ st, Tri _ _ _ st _ → _ => hK; first | (apply hK; clear hK) | (clear hK; rename ∀ st, Tri _ _ _ st _ → _ => hK; first | (apply hK; clear hK) | (clear hK; rename ∀ st, Tri _ _ _ st _ → _ => hK; apply hK; clear hK)))))) | skip)
                  | (intro β)
                  | (rename ∀ st, Tri _ _ _ st _ → _ => hK; apply hK; clear hK))
                exact ⟨b4, b6, b11, b9, bm, ⟨rfl, by simp [upd, s2], by simp [upd, s4], by simp [upd, x4], by simp [upd, s6], by simp [upd, x6], by simp [upd, s11], by rw [hnx]; simp [upd, svL, m1, (show ¬ x.least = 0 by simpa using m2), m3]⟩, by simp [upd, s9], by simp [upd, x9], by simp [upd, s10], by simp [upd, x100]⟩
              · repeat (first
                  | (refine Tri.seq fun K hK => ?_)
                  | (refine Tri.region ?_; simp [upd, hn, s2, s4, x4, s6, x6, s11, x11, s9, x9, s10, x100, h41, h40, hk, hk1, w1, w2, w3, w4, w5, hlat, m1, m2, m3, hE, hi', he])
                  | (refine Tri.draw (by kernel_rfl) (by decide +kernel) ?_; simp [upd, hn, s2, s4, x4, s6, x6, s11, x11, s9, x9, s10, x100, h41, h40, hk, hk1, w1, w2, w3, w4, w5, hlat, m1, m2, m3, hE, hi', he])
                  | (refine Tri.draw2 [] [0, 1, 2, 3, 4, 5, 6, 7, 8, 9, 10, 11, 12] [] [] (by kernel_rfl) (by kernel_rfl) (by decide) (by rfl) (by decide +kernel) ?_; simp [upd, hn, s2, s4, x4, s6, x6, s11, x11, s9, x9, s10, x100, h41, h40, hk, hk1, w1, w2, w3, w4, w5, hlat, m1, m2, m3, hE, hi', he])
                  | (refine Tri.cond_true ?_ ?_; (focus simp [upd, hn, s2, s4, x4, s6, x6, s11, x11, s9, x9, s10, x100, h41, h40, hk, hk1, w1, w2, w3, w4, w5, hlat, m1, m2, m3, hE, hi', he]; done))
                  | (refine Tri.cond_false ?_ ?_; (focus simp [upd, hn, s2, s4, x4, s6, x6, s11, x11, s9, x9, s10, x100, h41, h40, hk, hk1, w1, w2, w3, w4, w5, hlat, m1, m2, m3, hE, hi', he]; done))
                  | (refine Tri.skip ?_; simp only [thenS, blockS])
                  | (refine Tri.block_seq ?_)
                  | (refine Tri.block_region ?_)
                  | (refine Tri.block_cond ?_)
                  | (refine CallK.pure hA (Wks.refl _) ?_; simp [upd, hn, s2, s4, x4, s6, x6, s11, x11, s9, x9, s10, x100, h41, h40, hk, hk1, w1, w2, w3, w4, w5, hlat, m1, m2, m3, hE, hi', he])
                  | (refine Tri.exit ?_; simp [upd, hn, s2, s4, x4, s6, x6, s11, x11, s9, x9, s10, x100, h41, h40, hk, hk1, w1, w2, w3, w4, w5, hlat, m1, m2, m3, hE, hi', he]; first | (rename ∀ st, Tri _ _ _ st _ → _ => hK; first | (apply hK; clear hK) | (clear hK; rename ∀ st, Tri _ _ _ st _ → _ => hK; first | (apply hK; clear hK) | (clear hK; rename ∀ st, Tri _ _ _ st _ → _ => hK; first | (apply hK; clear hK) | (clear hK; rename ∀ st, Tri _ _ _ st _ → _ => hK; first | (apply hK; clear hK) | (clear hK; rename ∀ st, Tri _ _ _ st _ → _ => hK; first | (apply hK; clear hK) | (clear hK; rename ∀ st, Tri _ _ _ st _ → _ => hK; apply hK; clear hK)))))) | skip)
                  | (intro β)
                  | (rename ∀ st, Tri _ _ _ st _ → _ => hK; apply hK; clear hK))
                refine ⟨⟨b4, b6, b11, b9, bm, ⟨rfl, by simp [upd, s2], by simp [upd, s4], by simp [upd, x4], by simp [upd, s6], by simp [upd, x6], by simp [upd, s11], by rw [hnx]; simp [upd, svL, m1, (show ¬ x.least = 0 by simpa using m2), m3]⟩, by simp [upd, s9], by simp [upd, x9], by simp [upd, s10], by simp [upd, x100]⟩, ?_⟩
                simp [upd, h41, h40]
            · repeat (first
                | (refine Tri.seq fun K hK => ?_)
                | (refine Tri.region ?_; simp [upd, hn, s2, s4, x4, s6, x6, s11, x11, s9, x9, s10, x100, h41, h40, hk, hk1, w1, w2, w3, w4, w5, hlat, m1, m2, hE, hi', he])
                | (refine Tri.draw (by kernel_rfl) (by decide +kernel) ?_; simp [upd, hn, s2, s4, x4, s6, x6, s11, x11, s9, x9, s10, x100, h41, h40, hk, hk1, w1, w2, w3, w4, w5, hlat, m1, m2, hE, hi', he])
                | (refine Tri.draw2 [] [0, 1, 2, 3, 4, 5, 6, 7, 8, 9, 10, 11, 12] [] [] (by kernel_rfl) (by kernel_rfl) (by decide) (by rfl) (by decide +kernel) ?_; simp [upd, hn, s2, s4, x4, s6, x6, s11, x11, s9, x9, s10, x100, h41, h40, hk, hk1, w1, w2, w3, w4, w5, hlat, m1, m2, hE, hi', he])
                | (refine Tri.cond_true ?_ ?_; (focus simp [upd, hn, s2, s4, x4, s6, x6, s11, x11, s9, x9, s10, x100, h41, h40, hk, hk1, w1, w2, w3, w4, w5, hlat, m1, m2, hE, hi', he]; done))
                | (refine Tri.cond_false ?_ ?_; (focus simp [upd, hn, s2, s4, x4, s6, x6, s11, x11, s9, x9, s10, x100, h41, h40, hk, hk1, w1, w2, w3, w4, w5, hlat, m1, m2, hE, hi', he]; done))
                | (refine Tri.skip ?_; simp only [thenS, blockS])
                | (refine Tri.block_seq ?_)
                | (refine Tri.block_region ?_)
                | (refine Tri.block_cond ?_)
                | (refine CallK.pure hA (Wks.refl _) ?_; simp [upd, hn, s2, s4, x4, s6, x6, s11, x11, s9, x9, s10, x100, h41, h40, hk, hk1, w1, w2, w3, w4, w5, hlat, m1, m2, hE, hi', he])
                | (refine Tri.exit ?_; simp [upd, hn, s2, s4, x4, s6, x6, s11, x11, s9, x9, s10, x100, h41, h40, hk, hk1, w1, w2, w3, w4, w5, hlat, m1, m2, hE, hi', he]; first | (rename ∀ st, Tri _ _ _ st _ → _ => hK; first | (apply hK; clear hK) | (clear hK; rename ∀ st, Tri _ _ _ st _ → _ => hK; first | (apply hK; clear hK) | (clear hK; rename ∀ st, Tri _ _ _ st _ → _ => hK; first | (apply hK; clear hK) | (clear hK; rename ∀ st, Tri _ _ _ st _ → _ => hK; first | (apply hK; clear hK) | (clear hK; rename ∀ st, Tri _ _ _ st _ → _ => hK; first | (apply hK; clear hK) | (clear hK; rename ∀ st, Tri _ _ _ st _ → _ => hK; apply hK; clear hK)))))) | skip)
                | (intro β)
                | (rename ∀ st, Tri _ _ _ st _ → _ => hK; apply hK; clear hK))
              exact ⟨b4, b6, b11, b9, bm, ⟨rfl, by simp [upd, s2], by simp [upd, s4], by simp [upd, x4], by simp [upd, s6], by simp [upd, x6], by simp [upd, s11], by rw [hnx]; simp [upd, svL, m1, (show x.least = 0 by simpa using m2)]⟩, by simp [upd, s9], by simp [upd, x9], by simp [upd, s10], by simp [upd, x100]⟩
          · cases m2 : (x.least == 0)
            · by_cases m3 : lat < x.least
              · repeat (first
                  | (refine Tri.seq fun K hK => ?_)
                  | (refine Tri.region ?_; simp [upd, hn, s2, s4, x4, s6, x6, s11, x11, s9, x9, s10, x100, h41, h40, hk, hk1, w1, w2, w3, w4, w5, hlat, m1, m2, m3, hE, hi', he])
                  | (refine Tri.draw (by kernel_rfl) (by decide +kernel) ?_; simp [upd, hn, s2, s4, x4, s6, x6, s11, x11, s9, x9, s10, x100, h41, h40, hk, hk1, w1, w2, w3, w4, w5, hlat, m1, m2, m3, hE, hi', he])
                  | (refine Tri.draw2 [] [0, 1, 2, 3, 4, 5, 6, 7, 8, 9, 10, 11, 12] [] [] (by kernel_rfl) (by kernel_rfl) (by decide) (by rfl) (by decide +kernel) ?_; simp [upd, hn, s2, s4, x4, s6, x6, s11, x11, s9, x9, s10, x100, h41, h40, hk, hk1, w1, w2, w3, w4, w5, hlat, m1, m2, m3, hE, hi', he])
                  | (refine Tri.cond_true ?_ ?_; (focus simp [upd, hn, s2, s4, x4, s6, x6, s11, x11, s9, x9, s10, x100, h41, h40, hk, hk1, w1, w2, w3, w4, w5, hlat, m1, m2, m3, hE, hi', he]; done))
                  | (refine Tri.cond_false ?_ ?_; (focus simp [upd, hn, s2, s4, x4, s6, x6, s11, x11, s9, x9, s10, x100, h41, h40, hk, hk1, w1, w2, w3, w4, w5, hlat, m1, m2, m3, hE, hi', he]; done))
                  | (refine Tri.skip ?_; simp only [thenS, blockS])
                  | (refine Tri.block_seq ?_)
                  | (refine Tri.block_region ?_)
                  | (refine Tri.block_cond ?_)
                  | (refine CallK.pure hA (Wks.refl _) ?_; simp [upd, hn, s2, s4, x4, s6, x6, s11, x11, s9, x9, s10, x100, h41, h40, hk, hk1, w1, w2, w3, w4, w5, hlat, m1, m2, m3, hE, hi', he])
                  | (refine Tri.exit ?_; simp [upd, hn, s2, s4, x4, s6, x6, s11, x11, s9, x9, s10, x100, h41, h40, hk, hk1, w1, w2, w3, w4, w5, hlat, m1, m2, m3, hE, hi', he]; first | (rename ∀ st, Tri _ _ _ st _ → _ => hK; first | (apply hK; clear hK) | (clear hK; rename ∀ st, Tri _ _ _ st _ → _ => hK; first | (apply hK; clear hK) | (clear hK; rename ∀ st, Tri _ _ _ st _ → _ => hK; first | (apply hK; clear hK) | (clear hK; rename ∀ st, Tri _ _ _ st _ → _ => hK; first | (apply hK; clear hK) | (clear hK; rename ∀ st, Tri _ _ _ st _ → _ => hK; first | (apply hK; clear hK) | (clear hK; rename ∀ st, Tri _ _ _ st _ → _ => hK; apply hK; clear hK)))))) | skip)
                  | (intro β)
                  | (rename ∀ st, Tri _ _ _ st _ → _ => hK; apply hK; clear hK))
                exact ⟨b4, b6, b11, b9, bm, ⟨rfl, by simp [upd, s2], by simp [upd, s4], by simp [upd, x4], by simp [upd, s6], by simp [upd, x6], by simp [upd, s11], by rw [hnx]; simp [upd, svL, m1, (show ¬ x.least = 0 by simpa using m2), m3]⟩, by simp [upd, s9], by simp [upd, x9], by simp [upd, s10], by simp [upd, x100]⟩
              · repeat (first
                  | (refine Tri.seq fun K hK => ?_)
                  | (refine Tri.region ?_; simp [upd, hn, s2, s4, x4, s6, x6, s11, x11, s9, x9, s10, x100, h41, h40, hk, hk1, w1, w2, w3, w4, w5, hlat, m1, m2, m3, hE, hi', he])
                  | (refine Tri.draw (by kernel_rfl) (by decide +kernel) ?_; simp [upd, hn, s2, s4, x4, s6, x6, s11, x11, s9, x9, s10, x100, h41, h40, hk, hk1, w1, w2, w3, w4, w5, hlat, m1, m2, m3, hE, hi', he])
                  | (refine Tri.draw2 [] [0, 1, 2, 3, 4, 5, 6, 7, 8, 9, 10, 11, 12] [] [] (by kernel_rfl) (by kernel_rfl) (by decide) (by rfl) (by decide +kernel) ?_; simp [upd, hn, s2, s4, x4, s6, x6, s11, x11, s9, x9, s10, x100, h41, h40, hk, hk1, w1, w2, w3, w4, w5, hlat, m1, m2, m3, hE, hi', he])
                  | (refine Tri.cond_true ?_ ?_; (focus simp [upd, hn, s2, s4, x4, s6, x6, s11, x11, s9, x9, s10, x100, h41, h40, hk, hk1, w1, w2, w3, w4, w5, hlat, m1, m2, m3, hE, hi', he]; done))
                  | (refine Tri.cond_false ?_ ?_; (focus simp [upd, hn, s2, s4, x4, s6, x6, s11, x11, s9, x9, s10, x100, h41, h40, hk, hk1, w1, w2, w3, w4, w5, hlat, m1, m2, m3, hE, hi', he]; done))
                  | (refine Tri.skip ?_; simp only [thenS, blockS])
                  | (refine Tri.block_seq ?_)
                  | (refine Tri.block_region ?_)
                  | (refine Tri.block_cond ?_)
                  | (refine CallK.pure hA (Wks.refl _) ?_; simp [upd, hn, s2, s4, x4, s6, x6, s11, x11, s9, x9, s10, x100, h41, h40, hk, hk1, w1, w2, w3, w4, w5, hlat, m1, m2, m3, hE, hi', he])
                  | (refine Tri.exit ?_; simp [upd, hn, s2, s4, x4, s6, x6, s11, x11, s9, x9, s10, x100, h41, h40, hk, hk1, w1, w2, w3, w4, w5, hlat, m1, m2, m3, hE, hi', he]; first | (rename ∀ st, Tri _ _ _ st _ → _ => hK; first | (apply hK; clear hK) | (clear hK; rename ∀ st, Tri _ _ _ st _ → _ => hK; first | (apply hK; clear hK) | (clear hK; rename ∀ st, Tri _ _ _ st _ → _ => hK; first | (apply hK; clear hK) | (clear hK; rename ∀ st, Tri _ _ _ st _ → _ => hK; first | (apply hK; clear hK) | (clear hK; rename ∀ st, Tri _ _ _ st _ → _ => hK; first | (apply hK; clear hK) | (clear hK; rename ∀ st, Tri _ _ _ st _ → _ => hK; apply hK; clear hK)))))) | skip)
                  | (intro β)
                  | (rename ∀ st, Tri _ _ _ st _ → _ => hK; apply hK; clear hK))
                refine ⟨⟨b4, b6, b11, b9, bm, ⟨rfl, by simp [upd, s2], by simp [upd, s4], by simp [upd, x4], by simp [upd, s6], by simp [upd, x6], by simp [upd, s11], by rw [hnx]; simp [upd, svL, m1, (show ¬ x.least = 0 by simpa using m2), m3]⟩, by simp [upd, s9], by simp [upd, x9], by simp [upd, s10], by simp [upd, x100]⟩, ?_⟩
                simp [upd, h41, h40]
            · repeat (first
                | (refine Tri.seq fun K hK => ?_)
                | (refine Tri.region ?_; simp [upd, hn, s2, s4, x4, s6, x6, s11, x11, s9, x9, s10, x100, h41, h40, hk, hk1, w1, w2, w3, w4, w5, hlat, m1, m2, hE, hi', he])
                | (refine Tri.draw (by kernel_rfl) (by decide +kernel) ?_; simp [upd, hn, s2, s4, x4, s6, x6, s11, x11, s9, x9, s10, x100, h41, h40, hk, hk1, w1, w2, w3, w4, w5, hlat, m1, m2, hE, hi', he])
                | (refine Tri.draw2 [] [0, 1, 2, 3, 4, 5, 6, 7, 8, 9, 10, 11, 12] [] [] (by kernel_rfl) (by kernel_rfl) (by decide) (by rfl) (by decide +kernel) ?_; simp [upd, hn, s2, s4, x4, s6, x6, s11, x11, s9, x9, s10, x100, h41, h40, hk, hk1, w1, w2, w3, w4, w5, hlat, m1, m2, hE, hi', he])
                | (refine Tri.cond_true ?_ ?_; (focus simp [upd, hn, s2, s4, x4, s6, x6, s11, x11, s9, x9, s10, x100, h41, h40, hk, hk1, w1, w2, w3, w4, w5, hlat, m1, m2, hE, hi', he]; done))
                | (refine Tri.cond_false ?_ ?_; (focus simp [upd, hn, s2, s4, x4, s6, x6, s11, x11, s9, x9, s10, x100, h41, h40, hk, hk1, w1, w2, w3, w4, w5, hlat, m1, m2, hE, hi', he]; done))
                | (refine Tri.skip ?_; simp only [thenS, blockS])
                | (refine Tri.block_seq ?_)
                | (refine Tri.block_region ?_)
                | (refine Tri.block_cond ?_)
                | (refine CallK.pure hA (Wks.refl _) ?_; simp [upd, hn, s2, s4, x4, s6, x6, s11, x11, s9, x9, s10, x100, h41, h40, hk, hk1, w1, w2, w3, w4, w5, hlat, m1, m2, hE, hi', he])
                | (refine Tri.exit ?_; simp [upd, hn, s2, s4, x4, s6, x6, s11, x11, s9, x9, s10, x100, h41, h40, hk, hk1, w1, w2, w3, w4, w5, hlat, m1, m2, hE, hi', he]; first | (rename ∀ st, Tri _ _ _ st _ → _ => hK; first | (apply hK; clear hK) | (clear hK; rename ∀ st, Tri _ _ _ st _ → _ => hK; first | (apply hK; clear hK) | (clear hK; rename ∀ st, Tri _ _ _ st _ → _ => hK; first | (apply hK; clear hK) | (clear hK; rename ∀ st, Tri _ _ _ st _ → _ => hK; first | (apply hK; clear hK) | (clear hK; rename ∀ st, Tri _ _ _ st _ → _ => hK; first | (apply hK; clear hK) | (clear hK; rename ∀ st, Tri _ _ _ st _ → _ => hK; apply hK; clear hK)))))) | skip)
                | (intro β)
                | (rename ∀ st, Tri _ _ _ st _ → _ => hK; apply hK; clear hK))
              exact ⟨b4, b6, b11, b9, bm, ⟨rfl, by simp [upd, s2], by simp [upd, s4], by simp [upd, x4], by simp [upd, s6], by simp [upd, x6], by simp [upd, s11], by rw [hnx]; simp [upd, svL, m1, (show x.least = 0 by simpa using m2)]⟩, by simp [upd, s9], by simp [upd, x9], by simp [upd, s10], by simp [upd, x100]⟩
    · rintro st ⟨b4, b6, b11, b9, bm, ⟨-, s2, s4, x4, s6, x6, s11, x11⟩, -⟩ hn
      change st.bx 11 = some (b11, svcC (serve1 l[i] r)) at x11
      rename ∀ st, Tri _ _ _ st _ → _ => hK
      apply hK
      unfold rC3 at x4
      repeat (first
        | (refine Tri.seq fun K hK => ?_)
        | (refine Tri.region ?_; simp [upd, hn, s2, s4, x4, s6, x6, s11, x11])
        | (refine Tri.draw (by kernel_rfl) (by decide +kernel) ?_; simp [upd, hn, s2, s4, x4, s6, x6, s11, x11])
        | (refine Tri.cond_true ?_ ?_; (focus simp [upd, hn, s2, s4, x4, s6, x6, s11, x11]; done))
        | (refine Tri.cond_false ?_ ?_; (focus simp [upd, hn, s2, s4, x4, s6, x6, s11, x11]; done))
        | (refine Tri.skip ?_; simp only [thenS, blockS])
        | (refine Tri.block_seq ?_)
        | (refine Tri.block_region ?_)
        | (refine Tri.block_cond ?_)
        | (refine Tri.exit ?_; simp [upd, hn, s2, s4, x4, s6, x6, s11, x11]; first | (rename ∀ st, Tri _ _ _ st _ → _ => hK; first | (apply hK; clear hK) | (clear hK; rename ∀ st, Tri _ _ _ st _ → _ => hK; first | (apply hK; clear hK) | (clear hK; rename ∀ st, Tri _ _ _ st _ → _ => hK; first | (apply hK; clear hK) | (clear hK; rename ∀ st, Tri _ _ _ st _ → _ => hK; first | (apply hK; clear hK) | (clear hK; rename ∀ st, Tri _ _ _ st _ → _ => hK; first | (apply hK; clear hK) | (clear hK; rename ∀ st, Tri _ _ _ st _ → _ => hK; apply hK; clear hK)))))) | skip)
        | (intro β)
        | (rename ∀ st, Tri _ _ _ st _ → _ => hK; apply hK; clear hK))
      refine Tri.range 92 91 93 117 119 rfl rfl r.atts.length (V2 l r l[i].id l[i]) (by simp) (by omega) ?_ rfl (by simp [upd]) (by simp [upd]) ?_ ?_ ?_
      · rintro k st t v ht ⟨b4, b6, b11, h, s90⟩
        refine ⟨b4, b6, b11, h.put t v (by omega), ?_⟩
        rcases ht with rfl | rfl | rfl <;> simpa [upd] using s90
      · exact ⟨b4, b6, b11, ⟨rfl, by simp [upd, s2], by simp [upd, s4], by simp [upd, x4, rC3], by simp [upd, s6], by simp [upd, x6], by simp [upd, s11], by simp [upd, x11]⟩, by simp [upd]⟩
      · rintro k st hk ⟨b4, b6, b11, ⟨-, s2, s4, x4, s6, x6, s11, x11⟩, s90⟩ hn h92 h91
        have hnx : (r.atts.take (k + 1)).foldl (svA l[i].id) (serve1 l[i] r) = svA l[i].id ((r.atts.take k).foldl (svA l[i].id) (serve1 l[i] r)) r.atts[k] := by
          rw [List.take_succ_eq_append_getElem hk, List.foldl_append]; rfl
        obtain ⟨-, hz1, hz2, -⟩ := sv_fr l[i] r.dels { svZ with frames := compI l[i] r.slots } (compI l[i] r.slots).toNat
        change (serve1 l[i] r).att = 0 at hz1
        change (serve1 l[i] r).lost = 0 at hz2
        obtain ⟨hb1, hb2, hb3, hb4⟩ := sv_at l[i].id (r.atts.take k) (serve1 l[i] r) (by omega) (by omega)
        rw [List.length_take_of_le (by omega)] at hb2 hb4
        generalize (r.atts.take k).foldl (svA l[i].id) (serve1 l[i] r) = x at *
        have w1 : IntKind.i64.wrap (x.att + 1) = x.att + 1 := wrap_i64 (by omega) (by omega)
        have w2 : IntKind.i64.wrap (x.lost + 1) = x.lost + 1 := wrap_i64 (by omega) (by omega)
        rw [svA] at hnx
        cases m1 : (r.atts[k].flow == l[i].id)
        case false =>
          rw [if_neg (fun h => by simp [h.1] at m1)] at hnx
          repeat (first
            | (refine Tri.seq fun K hK => ?_)
            | (refine Tri.region ?_; simp [upd, hn, s2, s4, x4, s6, x6, s11, x11, s90, h92, h91, hk, w1, w2, bne, m1])
            | (refine Tri.draw (by kernel_rfl) (by decide +kernel) ?_; simp [upd, hn, s2, s4, x4, s6, x6, s11, x11, s90, h92, h91, hk, w1, w2, bne, m1])
            | (refine Tri.cond_true ?_ ?_; (focus simp [upd, hn, s2, s4, x4, s6, x6, s11, x11, s90, h92, h91, hk, w1, w2, bne, m1]; done))
            | (refine Tri.cond_false ?_ ?_; (focus simp [upd, hn, s2, s4, x4, s6, x6, s11, x11, s90, h92, h91, hk, w1, w2, bne, m1]; done))
            | (refine Tri.skip ?_; simp only [thenS, blockS])
            | (refine Tri.block_seq ?_)
            | (refine Tri.block_region ?_)
            | (refine Tri.block_cond ?_)
            | (refine Tri.exit ?_; simp [upd, hn, s2, s4, x4, s6, x6, s11, x11, s90, h92, h91, hk, w1, w2, bne, m1]; first | (rename ∀ st, Tri _ _ _ st _ → _ => hK; first | (apply hK; clear hK) | (clear hK; rename ∀ st, Tri _ _ _ st _ → _ => hK; first | (apply hK; clear hK) | (clear hK; rename ∀ st, Tri _ _ _ st _ → _ => hK; first | (apply hK; clear hK) | (clear hK; rename ∀ st, Tri _ _ _ st _ → _ => hK; first | (apply hK; clear hK) | (clear hK; rename ∀ st, Tri _ _ _ st _ → _ => hK; first | (apply hK; clear hK) | (clear hK; rename ∀ st, Tri _ _ _ st _ → _ => hK; apply hK; clear hK)))))) | skip)
            | (intro β)
            | (rename ∀ st, Tri _ _ _ st _ → _ => hK; apply hK; clear hK))
          refine ⟨⟨b4, b6, b11, ⟨rfl, by simp [upd, s2], by simp [upd, s4], by simp [upd, x4], by simp [upd, s6], by simp [upd, x6], by simp [upd, s11], by rw [hnx]; simp [upd, x11, w1]⟩, by simp [upd, s90]⟩, ?_⟩
          simp [upd, h92, h91]
        cases m2 : (r.atts[k].out == 4)
        case true =>
          rw [if_neg (fun h => h.2 (by simpa using m2))] at hnx
          repeat (first
            | (refine Tri.seq fun K hK => ?_)
            | (refine Tri.region ?_; simp [upd, hn, s2, s4, x4, s6, x6, s11, x11, s90, h92, h91, hk, w1, w2, bne, m1, m2])
            | (refine Tri.draw (by kernel_rfl) (by decide +kernel) ?_; simp [upd, hn, s2, s4, x4, s6, x6, s11, x11, s90, h92, h91, hk, w1, w2, bne, m1, m2])
            | (refine Tri.cond_true ?_ ?_; (focus simp [upd, hn, s2, s4, x4, s6, x6, s11, x11, s90, h92, h91, hk, w1, w2, bne, m1, m2]; done))
            | (refine Tri.cond_false ?_ ?_; (focus simp [upd, hn, s2, s4, x4, s6, x6, s11, x11, s90, h92, h91, hk, w1, w2, bne, m1, m2]; done))
            | (refine Tri.skip ?_; simp only [thenS, blockS])
            | (refine Tri.block_seq ?_)
            | (refine Tri.block_region ?_)
            | (refine Tri.block_cond ?_)
            | (refine Tri.exit ?_; simp [upd, hn, s2, s4, x4, s6, x6, s11, x11, s90, h92, h91, hk, w1, w2, bne, m1, m2]; first | (rename ∀ st, Tri _ _ _ st _ → _ => hK; first | (apply hK; clear hK) | (clear hK; rename ∀ st, Tri _ _ _ st _ → _ => hK; first | (apply hK; clear hK) | (clear hK; rename ∀ st, Tri _ _ _ st _ → _ => hK; first | (apply hK; clear hK) | (clear hK; rename ∀ st, Tri _ _ _ st _ → _ => hK; first | (apply hK; clear hK) | (clear hK; rename ∀ st, Tri _ _ _ st _ → _ => hK; first | (apply hK; clear hK) | (clear hK; rename ∀ st, Tri _ _ _ st _ → _ => hK; apply hK; clear hK)))))) | skip)
            | (intro β)
            | (rename ∀ st, Tri _ _ _ st _ → _ => hK; apply hK; clear hK))
          refine ⟨⟨b4, b6, b11, ⟨rfl, by simp [upd, s2], by simp [upd, s4], by simp [upd, x4], by simp [upd, s6], by simp [upd, x6], by simp [upd, s11], by rw [hnx]; simp [upd, x11, w1]⟩, by simp [upd, s90]⟩, ?_⟩
          simp [upd, h92, h91]
        rw [if_pos ⟨by simpa using m1, by simpa using m2⟩] at hnx
        cases m3 : (r.atts[k].out == 1)
        case true =>
          repeat (first
            | (refine Tri.seq fun K hK => ?_)
            | (refine Tri.region ?_; simp [upd, hn, s2, s4, x4, s6, x6, s11, x11, s90, h92, h91, hk, w1, w2, bne, m1, m2, m3])
            | (refine Tri.draw (by kernel_rfl) (by decide +kernel) ?_; simp [upd, hn, s2, s4, x4, s6, x6, s11, x11, s90, h92, h91, hk, w1, w2, bne, m1, m2, m3])
            | (refine Tri.cond_true ?_ ?_; (focus simp [upd, hn, s2, s4, x4, s6, x6, s11, x11, s90, h92, h91, hk, w1, w2, bne, m1, m2, m3]; done))
            | (refine Tri.cond_false ?_ ?_; (focus simp [upd, hn, s2, s4, x4, s6, x6, s11, x11, s90, h92, h91, hk, w1, w2, bne, m1, m2, m3]; done))
            | (refine Tri.skip ?_; simp only [thenS, blockS])
            | (refine Tri.block_seq ?_)
            | (refine Tri.block_region ?_)
            | (refine Tri.block_cond ?_)
            | (refine Tri.exit ?_; simp [upd, hn, s2, s4, x4, s6, x6, s11, x11, s90, h92, h91, hk, w1, w2, bne, m1, m2, m3]; first | (rename ∀ st, Tri _ _ _ st _ → _ => hK; first | (apply hK; clear hK) | (clear hK; rename ∀ st, Tri _ _ _ st _ → _ => hK; first | (apply hK; clear hK) | (clear hK; rename ∀ st, Tri _ _ _ st _ → _ => hK; first | (apply hK; clear hK) | (clear hK; rename ∀ st, Tri _ _ _ st _ → _ => hK; first | (apply hK; clear hK) | (clear hK; rename ∀ st, Tri _ _ _ st _ → _ => hK; first | (apply hK; clear hK) | (clear hK; rename ∀ st, Tri _ _ _ st _ → _ => hK; apply hK; clear hK)))))) | skip)
            | (intro β)
            | (rename ∀ st, Tri _ _ _ st _ → _ => hK; apply hK; clear hK))
          refine ⟨⟨b4, b6, b11, ⟨rfl, by simp [upd, s2], by simp [upd, s4], by simp [upd, x4], by simp [upd, s6], by simp [upd, x6], by simp [upd, s11], by rw [hnx]; simp [upd, x11, (show r.atts[k].out = 1 by simpa using m3)]⟩, by simp [upd, s90]⟩, ?_⟩
          simp [upd, h92, h91]
        case false =>
          repeat (first
            | (refine Tri.seq fun K hK => ?_)
            | (refine Tri.region ?_; simp [upd, hn, s2, s4, x4, s6, x6, s11, x11, s90, h92, h91, hk, w1, w2, bne, m1, m2, m3])
            | (refine Tri.draw (by kernel_rfl) (by decide +kernel) ?_; simp [upd, hn, s2, s4, x4, s6, x6, s11, x11, s90, h92, h91, hk, w1, w2, bne, m1, m2, m3])
            | (refine Tri.cond_true ?_ ?_; (focus simp [upd, hn, s2, s4, x4, s6, x6, s11, x11, s90, h92, h91, hk, w1, w2, bne, m1, m2, m3]; done))
            | (refine Tri.cond_false ?_ ?_; (focus simp [upd, hn, s2, s4, x4, s6, x6, s11, x11, s90, h92, h91, hk, w1, w2, bne, m1, m2, m3]; done))
            | (refine Tri.skip ?_; simp only [thenS, blockS])
            | (refine Tri.block_seq ?_)
            | (refine Tri.block_region ?_)
            | (refine Tri.block_cond ?_)
            | (refine Tri.exit ?_; simp [upd, hn, s2, s4, x4, s6, x6, s11, x11, s90, h92, h91, hk, w1, w2, bne, m1, m2, m3]; first | (rename ∀ st, Tri _ _ _ st _ → _ => hK; first | (apply hK; clear hK) | (clear hK; rename ∀ st, Tri _ _ _ st _ → _ => hK; first | (apply hK; clear hK) | (clear hK; rename ∀ st, Tri _ _ _ st _ → _ => hK; first | (apply hK; clear hK) | (clear hK; rename ∀ st, Tri _ _ _ st _ → _ => hK; first | (apply hK; clear hK) | (clear hK; rename ∀ st, Tri _ _ _ st _ → _ => hK; first | (apply hK; clear hK) | (clear hK; rename ∀ st, Tri _ _ _ st _ → _ => hK; apply hK; clear hK)))))) | skip)
            | (intro β)
            | (rename ∀ st, Tri _ _ _ st _ → _ => hK; apply hK; clear hK))
          exact ⟨b4, b6, b11, ⟨rfl, by simp [upd, s2], by simp [upd, s4], by simp [upd, x4], by simp [upd, s6], by simp [upd, x6], by simp [upd, s11], by rw [hnx]; simp [upd, x11, (show ¬ r.atts[k].out = 1 by simpa using m3)]⟩, by simp [upd, s90]⟩
      · rintro st ⟨b4, b6, b11, ⟨-, s2, s4, x4, s6, x6, s11, x11⟩, -⟩ hn
        rw [List.take_length] at x11
        change st.bx 11 = some (b11, svcC (serve2 l[i].id l[i] r)) at x11
        rename ∀ st, Tri _ _ _ st _ → _ => hK
        apply hK
        repeat (first
          | (refine Tri.seq fun K hK => ?_)
          | (refine Tri.region ?_; simp [upd, hn, s6, x6, s11, x11, svZ])
          | (refine Tri.draw (by kernel_rfl) (by decide +kernel) ?_; simp [upd, hn, s6, x6, s11, x11, svZ])
          | (refine Tri.cond_true ?_ ?_; (focus simp [upd, hn, s6, x6, s11, x11, svZ]; done))
          | (refine Tri.cond_false ?_ ?_; (focus simp [upd, hn, s6, x6, s11, x11, svZ]; done))
          | (refine Tri.skip ?_; simp only [thenS, blockS])
          | (refine Tri.block_seq ?_)
          | (refine Tri.block_region ?_)
          | (refine Tri.block_cond ?_)
          | (refine Tri.exit ?_; simp [upd, hn, s6, x6, s11, x11, svZ]; first | (rename ∀ st, Tri _ _ _ st _ → _ => hK; first | (apply hK; clear hK) | (clear hK; rename ∀ st, Tri _ _ _ st _ → _ => hK; first | (apply hK; clear hK) | (clear hK; rename ∀ st, Tri _ _ _ st _ → _ => hK; first | (apply hK; clear hK) | (clear hK; rename ∀ st, Tri _ _ _ st _ → _ => hK; first | (apply hK; clear hK) | (clear hK; rename ∀ st, Tri _ _ _ st _ → _ => hK; first | (apply hK; clear hK) | (clear hK; rename ∀ st, Tri _ _ _ st _ → _ => hK; apply hK; clear hK)))))) | skip)
          | (intro β)
          | (rename ∀ st, Tri _ _ _ st _ → _ => hK; apply hK; clear hK))
        exact Tri.ret ⟨.tup [.agg (svcC (serve2 l[i].id l[i] r)), .c (.int .i64 0)], by simp [upd, s6], Wk.refl _⟩
end Go.Proofs.Ytngbpmiikpjiaaa
end
section
open Go Go.Vm
namespace Go.Proofs.Ytngbpmiikpjiaaa
set_option maxRecDepth 100000
set_option maxHeartbeats 4000000
set_option linter.unusedSimpArgs false
attribute [-simp] isObj C.isO
attribute [local irreducible] Tri Does DoesB DoesR Rounds check fault flowsE arr slotsOf inB findI
theorem sameLate_does (x : List Lat) (n1 n2 : Bool) (hl : x.length ≤ 1073741824) : Does Try.prog 15 [.c (.sl n1 3 none (x.map latC)), .c (.sl n2 3 none (x.map latC))] (.c (.bool true)) := by
  refine Does.of_body Try.func15 rfl (by kernel_rfl) rfl rfl (by simp) ?_
  intro E
  repeat (first
    | (refine Tri.seq fun K hK => ?_)
    | (refine Tri.region ?_; simp [upd, bne])
    | (refine Tri.draw (by kernel_rfl) (by decide +kernel) ?_; simp [upd, bne])
    | (refine Tri.cond_true ?_ ?_; (focus simp [upd, bne]; done))
    | (refine Tri.cond_false ?_ ?_; (focus simp [upd, bne]; done))
    | (refine Tri.skip ?_; simp only [thenS, blockS])
    | (refine Tri.block_seq ?_)
    | (refine Tri.block_region ?_)
    | (refine Tri.block_cond ?_)
    | (refine Tri.exit ?_; simp [upd, bne]; first | (rename ∀ st, Tri _ _ _ st _ → _ => hK; first | (apply hK; clear hK) | (clear hK; rename ∀ st, Tri _ _ _ st _ → _ => hK; first | (apply hK; clear hK) | (clear hK; rename ∀ st, Tri _ _ _ st _ → _ => hK; first | (apply hK; clear hK) | (clear hK; rename ∀ st, Tri _ _ _ st _ → _ => hK; first | (apply hK; clear hK) | (clear hK; rename ∀ st, Tri _ _ _ st _ → _ => hK; first | (apply hK; clear hK) | (clear hK; rename ∀ st, Tri _ _ _ st _ → _ => hK; apply hK; clear hK)))))) | skip)
    | (intro β)
    | (rename ∀ st, Tri _ _ _ st _ → _ => hK; apply hK; clear hK))
  rename ∀ st, Tri _ _ _ st _ → _ => hK
  have fin := fun (st : St) (h : st.n = 26) => hK st ?tail
  case tail =>
    have hn := h
    repeat (first
      | (refine Tri.seq fun K hK => ?_)
      | (refine Tri.region ?_; simp [upd, hn])
      | (refine Tri.draw (by kernel_rfl) (by decide +kernel) ?_; simp [upd, hn])
      | (refine Tri.cond_true ?_ ?_; (focus simp [upd, hn]; done))
      | (refine Tri.cond_false ?_ ?_; (focus simp [upd, hn]; done))
      | (refine Tri.skip ?_; simp only [thenS, blockS])
      | (refine Tri.block_seq ?_)
      | (refine Tri.block_region ?_)
      | (refine Tri.block_cond ?_)
      | (refine Tri.exit ?_; simp [upd, hn]; first | (rename ∀ st, Tri _ _ _ st _ → _ => hK; first | (apply hK; clear hK) | (clear hK; rename ∀ st, Tri _ _ _ st _ → _ => hK; first | (apply hK; clear hK) | (clear hK; rename ∀ st, Tri _ _ _ st _ → _ => hK; first | (apply hK; clear hK) | (clear hK; rename ∀ st, Tri _ _ _ st _ → _ => hK; first | (apply hK; clear hK) | (clear hK; rename ∀ st, Tri _ _ _ st _ → _ => hK; first | (apply hK; clear hK) | (clear hK; rename ∀ st, Tri _ _ _ st _ → _ => hK; apply hK; clear hK)))))) | skip)
      | (intro β)
      | (rename ∀ st, Tri _ _ _ st _ → _ => hK; apply hK; clear hK))
    refine Tri.ret ⟨_, rfl, ?_⟩
    simp [upd]
    exact Wk.refl _
  clear hK
  refine Tri.block (Tri.loop (fun m st => ∃ i : Nat, m + i = x.length ∧ st.n = 26 ∧ st.sl 0 = .c (.sl n1 3 none (x.map latC)) ∧ st.sl 1 = .c (.sl n2 3 none (x.map latC)) ∧ st.sl 5 = .c (.int .i64 i)) x.length ⟨0, rfl, rfl, by simp [upd], by simp [upd], by simp [upd]⟩ ?_)
  rintro m st ⟨i, hm, hn, s0, s1, s5⟩
  by_cases hi : i < x.length
  case neg =>
    repeat (first
      | (refine Tri.seq fun K hK => ?_)
      | (refine Tri.region ?_; simp [upd, hn, s0, s1, s5, hi])
      | (refine Tri.draw (by kernel_rfl) (by decide +kernel) ?_; simp [upd, hn, s0, s1, s5, hi])
      | (refine Tri.cond_true ?_ ?_; (focus simp [upd, hn, s0, s1, s5, hi]; done))
      | (refine Tri.cond_false ?_ ?_; (focus simp [upd, hn, s0, s1, s5, hi]; done))
      | (refine Tri.skip ?_; simp only [thenS, blockS])
      | (refine Tri.block_seq ?_)
      | (refine Tri.block_region ?_)
      | (refine Tri.block_cond ?_)
      | (refine Tri.exit ?_; simp [upd, hn, s0, s1, s5, hi]; first | (rename ∀ st, Tri _ _ _ st _ → _ => hK; first | (apply hK; clear hK) | (clear hK; rename ∀ st, Tri _ _ _ st _ → _ => hK; first | (apply hK; clear hK) | (clear hK; rename ∀ st, Tri _ _ _ st _ → _ => hK; first | (apply hK; clear hK) | (clear hK; rename ∀ st, Tri _ _ _ st _ → _ => hK; first | (apply hK; clear hK) | (clear hK; rename ∀ st, Tri _ _ _ st _ → _ => hK; first | (apply hK; clear hK) | (clear hK; rename ∀ st, Tri _ _ _ st _ → _ => hK; apply hK; clear hK)))))) | skip)
      | (intro β)
      | (rename ∀ st, Tri _ _ _ st _ → _ => hK; apply hK; clear hK))
    exact fin _ rfl
  have hw : IntKind.i64.wrap ((i : Int) + 1) = (i : Int) + 1 := wrap_i64 (by omega) (by omega)
  repeat (first
    | (refine Tri.seq fun K hK => ?_)
    | (refine Tri.region ?_; simp [upd, hn, s0, s1, s5, hi, hw, bne])
    | (refine Tri.draw (by kernel_rfl) (by decide +kernel) ?_; simp [upd, hn, s0, s1, s5, hi, hw, bne])
    | (refine Tri.draw2 [] [0, 1, 2, 3, 4, 5, 6, 7, 8] [] [] (by kernel_rfl) (by kernel_rfl) (by decide) (by rfl) (by decide +kernel) ?_; simp [upd, hn, s0, s1, s5, hi, hw, bne])
    | (refine Tri.cond_true ?_ ?_; (focus simp [upd, hn, s0, s1, s5, hi, hw, bne]; done))
    | (refine Tri.cond_false ?_ ?_; (focus simp [upd, hn, s0, s1, s5, hi, hw, bne]; done))
    | (refine Tri.skip ?_; simp only [thenS, blockS])
    | (refine Tri.block_seq ?_)
    | (refine Tri.block_region ?_)
    | (refine Tri.block_cond ?_)
    | (refine Tri.exit ?_; simp [upd, hn, s0, s1, s5, hi, hw, bne]; first | (rename ∀ st, Tri _ _ _ st _ → _ => hK; first | (apply hK; clear hK) | (clear hK; rename ∀ st, Tri _ _ _ st _ → _ => hK; first | (apply hK; clear hK) | (clear hK; rename ∀ st, Tri _ _ _ st _ → _ => hK; first | (apply hK; clear hK) | (clear hK; rename ∀ st, Tri _ _ _ st _ → _ => hK; first | (apply hK; clear hK) | (clear hK; rename ∀ st, Tri _ _ _ st _ → _ => hK; first | (apply hK; clear hK) | (clear hK; rename ∀ st, Tri _ _ _ st _ → _ => hK; apply hK; clear hK)))))) | skip)
    | (intro β)
    | (rename ∀ st, Tri _ _ _ st _ → _ => hK; apply hK; clear hK))
  exact ⟨m - 1, by omega, i + 1, by omega, rfl⟩
theorem few56_does (l : List Flo) (nl : Bool) (r : Rec) : Does Try.prog 10 [.c (.sl nl 6 none (l.map floC)), .agg (recC r)] (.c (.bool (decide (l.length ≤ 20) && (decide (r.atts.length ≤ 150) && decide (r.dels.length ≤ 100))))) := by
  refine Does.of_body Try.func10 rfl (by kernel_rfl) rfl rfl (by simp) ?_
  intro E
  have hf := few_does r
  generalize (decide (r.atts.length ≤ 150) && decide (r.dels.length ≤ 100)) = q at *
  simp only [recC] at hf ⊢
  by_cases h1 : (l.length : Int) ≤ 20
  · rw [decide_eq_true (show l.length ≤ 20 by omega), Bool.true_and]
    repeat (first
      | (refine Tri.seq fun K hK => ?_)
      | (refine Tri.region ?_; simp [upd, h1])
      | (refine Tri.draw (by kernel_rfl) (by decide +kernel) ?_; simp [upd, h1])
      | (refine Tri.cond_true ?_ ?_; (focus simp [upd, h1]; done))
      | (refine Tri.cond_false ?_ ?_; (focus simp [upd, h1]; done))
      | (refine Tri.skip ?_; simp only [thenS, blockS])
      | (refine Tri.block_seq ?_)
      | (refine Tri.block_region ?_)
      | (refine Tri.block_cond ?_)
      | ((with_reducible refine CallK.pure (hf) (Wks.refl _) ?_); simp [upd, h1])
      | (refine Tri.exit ?_; simp [upd, h1]; first | (rename ∀ st, Tri _ _ _ st _ → _ => hK; first | (apply hK; clear hK) | (clear hK; rename ∀ st, Tri _ _ _ st _ → _ => hK; first | (apply hK; clear hK) | (clear hK; rename ∀ st, Tri _ _ _ st _ → _ => hK; first | (apply hK; clear hK) | (clear hK; rename ∀ st, Tri _ _ _ st _ → _ => hK; first | (apply hK; clear hK) | (clear hK; rename ∀ st, Tri _ _ _ st _ → _ => hK; first | (apply hK; clear hK) | (clear hK; rename ∀ st, Tri _ _ _ st _ → _ => hK; apply hK; clear hK)))))) | skip)
      | (intro β)
      | (rename ∀ st, Tri _ _ _ st _ → _ => hK; apply hK; clear hK))
    refine Tri.ret ⟨_, rfl, ?_⟩
    simp [upd]
    exact Wk.refl _
  · rw [decide_eq_false (show ¬ l.length ≤ 20 by omega), Bool.false_and]
    repeat (first
      | (refine Tri.seq fun K hK => ?_)
      | (refine Tri.region ?_; simp [upd, h1])
      | (refine Tri.draw (by kernel_rfl) (by decide +kernel) ?_; simp [upd, h1])
      | (refine Tri.cond_true ?_ ?_; (focus simp [upd, h1]; done))
      | (refine Tri.cond_false ?_ ?_; (focus simp [upd, h1]; done))
      | (refine Tri.skip ?_; simp only [thenS, blockS])
      | (refine Tri.block_seq ?_)
      | (refine Tri.block_region ?_)
      | (refine Tri.block_cond ?_)
      | ((with_reducible refine CallK.pure (hf) (Wks.refl _) ?_); simp [upd, h1])
      | (refine Tri.exit ?_; simp [upd, h1]; first | (rename ∀ st, Tri _ _ _ st _ → _ => hK; first | (apply hK; clear hK) | (clear hK; rename ∀ st, Tri _ _ _ st _ → _ => hK; first | (apply hK; clear hK) | (clear hK; rename ∀ st, Tri _ _ _ st _ → _ => hK; first | (apply hK; clear hK) | (clear hK; rename ∀ st, Tri _ _ _ st _ → _ => hK; first | (apply hK; clear hK) | (clear hK; rename ∀ st, Tri _ _ _ st _ → _ => hK; first | (apply hK; clear hK) | (clear hK; rename ∀ st, Tri _ _ _ st _ → _ => hK; apply hK; clear hK)))))) | skip)
      | (intro β)
      | (rename ∀ st, Tri _ _ _ st _ → _ => hK; apply hK; clear hK))
    refine Tri.ret ⟨_, rfl, ?_⟩
    simp [upd]
    exact Wk.refl _
theorem cloneF_does (l : List Flo) (nl : Bool) (hnl : nl = true → l = []) (hl : l.length ≤ 1073741824) : Does Try.prog 12 [.c (.sl nl 6 none (l.map floC))] (.c (.sl nl 6 none (l.map floC))) := by
  refine Does.of_body Try.func12 rfl (by kernel_rfl) rfl rfl (by simp) ?_
  intro E
  cases nl
  case true =>
    have := hnl rfl
    subst this
    repeat (first
      | (refine Tri.seq fun K hK => ?_)
      | (refine Tri.region ?_; simp [upd])
      | (refine Tri.draw (by kernel_rfl) (by decide +kernel) ?_; simp [upd])
      | (refine Tri.cond_true ?_ ?_; (focus simp [upd]; done))
      | (refine Tri.cond_false ?_ ?_; (focus simp [upd]; done))
      | (refine Tri.skip ?_; simp only [thenS, blockS])
      | (refine Tri.block_seq ?_)
      | (refine Tri.block_region ?_)
      | (refine Tri.block_cond ?_)
      | (refine Tri.exit ?_; simp [upd]; first | (rename ∀ st, Tri _ _ _ st _ → _ => hK; first | (apply hK; clear hK) | (clear hK; rename ∀ st, Tri _ _ _ st _ → _ => hK; first | (apply hK; clear hK) | (clear hK; rename ∀ st, Tri _ _ _ st _ → _ => hK; first | (apply hK; clear hK) | (clear hK; rename ∀ st, Tri _ _ _ st _ → _ => hK; first | (apply hK; clear hK) | (clear hK; rename ∀ st, Tri _ _ _ st _ → _ => hK; first | (apply hK; clear hK) | (clear hK; rename ∀ st, Tri _ _ _ st _ → _ => hK; apply hK; clear hK)))))) | skip)
      | (intro β)
      | (rename ∀ st, Tri _ _ _ st _ → _ => hK; apply hK; clear hK))
    refine Tri.ret ⟨_, rfl, ?_⟩
    simp [upd]
    exact .nil _ _ _ _
  have hs : (l.map floC).map (fun x => x.map C.strip) = l.map floC := by simp
  have hb : l.length * 48 ≤ 140737488355328 := by omega
  repeat (first
    | (refine Tri.seq fun K hK => ?_)
    | (refine Tri.region ?_; simp [upd, hs, hb])
    | (refine Tri.draw (by kernel_rfl) (by decide +kernel) ?_; simp [upd, hs, hb])
    | (refine Tri.cond_true ?_ ?_; (focus simp [upd, hs, hb]; done))
    | (refine Tri.cond_false ?_ ?_; (focus simp [upd, hs, hb]; done))
    | (refine Tri.skip ?_; simp only [thenS, blockS])
    | (refine Tri.block_seq ?_)
    | (refine Tri.block_region ?_)
    | (refine Tri.block_cond ?_)
    | (refine Tri.exit ?_; simp [upd, hs, hb]; first | (rename ∀ st, Tri _ _ _ st _ → _ => hK; first | (apply hK; clear hK) | (clear hK; rename ∀ st, Tri _ _ _ st _ → _ => hK; first | (apply hK; clear hK) | (clear hK; rename ∀ st, Tri _ _ _ st _ → _ => hK; first | (apply hK; clear hK) | (clear hK; rename ∀ st, Tri _ _ _ st _ → _ => hK; first | (apply hK; clear hK) | (clear hK; rename ∀ st, Tri _ _ _ st _ → _ => hK; first | (apply hK; clear hK) | (clear hK; rename ∀ st, Tri _ _ _ st _ → _ => hK; apply hK; clear hK)))))) | skip)
    | (intro β)
    | (rename ∀ st, Tri _ _ _ st _ → _ => hK; apply hK; clear hK))
  refine Tri.ret ⟨_, rfl, ?_⟩
  simp [upd]
  exact .untag _ _ _ _
theorem cloneI_does (l : List Int) (nl : Bool) (hnl : nl = true → l = []) (hl : l.length ≤ 1073741824) : Does Try.prog 52 [.c (.sl nl 1 none (I1 l))] (.c (.sl nl 1 none (I1 l))) := by
  refine Does.of_body Try.func52 rfl (by kernel_rfl) rfl rfl (by simp) ?_
  intro E
  unfold I1
  cases nl
  case true =>
    have := hnl rfl
    subst this
    repeat (first
      | (refine Tri.seq fun K hK => ?_)
      | (refine Tri.region ?_; simp [upd])
      | (refine Tri.draw (by kernel_rfl) (by decide +kernel) ?_; simp [upd])
      | (refine Tri.cond_true ?_ ?_; (focus simp [upd]; done))
      | (refine Tri.cond_false ?_ ?_; (focus simp [upd]; done))
      | (refine Tri.skip ?_; simp only [thenS, blockS])
      | (refine Tri.block_seq ?_)
      | (refine Tri.block_region ?_)
      | (refine Tri.block_cond ?_)
      | (refine Tri.exit ?_; simp [upd]; first | (rename ∀ st, Tri _ _ _ st _ → _ => hK; first | (apply hK; clear hK) | (clear hK; rename ∀ st, Tri _ _ _ st _ → _ => hK; first | (apply hK; clear hK) | (clear hK; rename ∀ st, Tri _ _ _ st _ → _ => hK; first | (apply hK; clear hK) | (clear hK; rename ∀ st, Tri _ _ _ st _ → _ => hK; first | (apply hK; clear hK) | (clear hK; rename ∀ st, Tri _ _ _ st _ → _ => hK; first | (apply hK; clear hK) | (clear hK; rename ∀ st, Tri _ _ _ st _ → _ => hK; apply hK; clear hK)))))) | skip)
      | (intro β)
      | (rename ∀ st, Tri _ _ _ st _ → _ => hK; apply hK; clear hK))
    refine Tri.ret ⟨_, rfl, ?_⟩
    simp [upd]
    exact .nil _ _ _ _
  have hs : (l.map fun x => [C.int .i64 x]).map (fun x => x.map C.strip) = l.map fun x => [C.int .i64 x] := by simp
  have hb : l.length * 8 ≤ 140737488355328 := by omega
  repeat (first
    | (refine Tri.seq fun K hK => ?_)
    | (refine Tri.region ?_; simp [upd, hs, hb])
    | (refine Tri.draw (by kernel_rfl) (by decide +kernel) ?_; simp [upd, hs, hb])
    | (refine Tri.cond_true ?_ ?_; (focus simp [upd, hs, hb]; done))
    | (refine Tri.cond_false ?_ ?_; (focus simp [upd, hs, hb]; done))
    | (refine Tri.skip ?_; simp only [thenS, blockS])
    | (refine Tri.block_seq ?_)
    | (refine Tri.block_region ?_)
    | (refine Tri.block_cond ?_)
    | (refine Tri.exit ?_; simp [upd, hs, hb]; first | (rename ∀ st, Tri _ _ _ st _ → _ => hK; first | (apply hK; clear hK) | (clear hK; rename ∀ st, Tri _ _ _ st _ → _ => hK; first | (apply hK; clear hK) | (clear hK; rename ∀ st, Tri _ _ _ st _ → _ => hK; first | (apply hK; clear hK) | (clear hK; rename ∀ st, Tri _ _ _ st _ → _ => hK; first | (apply hK; clear hK) | (clear hK; rename ∀ st, Tri _ _ _ st _ → _ => hK; first | (apply hK; clear hK) | (clear hK; rename ∀ st, Tri _ _ _ st _ → _ => hK; apply hK; clear hK)))))) | skip)
    | (intro β)
    | (rename ∀ st, Tri _ _ _ st _ → _ => hK; apply hK; clear hK))
  refine Tri.ret ⟨_, rfl, ?_⟩
  simp [upd]
  exact .untag _ _ _ _
/-- Nothing to sort. -/
theorem len64_1 : Does Try.prog 110 [.c (.int .u64 1)] (.c (.int .i64 1)) := by
  refine Does.of_body Try.func110 rfl (by kernel_rfl) rfl rfl (by simp) ?_
  intro E
  repeat (first
    | (refine Tri.seq fun K hK => ?_)
    | (refine Tri.region ?_; simp [upd])
    | (refine Tri.draw (by kernel_rfl) (by decide +kernel) ?_; simp [upd])
    | (refine Tri.cond_true ?_ ?_; (focus simp [upd]; done))
    | (refine Tri.cond_false ?_ ?_; (focus simp [upd]; done))
    | (refine Tri.skip ?_; simp only [thenS, blockS])
    | (refine Tri.block_seq ?_)
    | (refine Tri.block_region ?_)
    | (refine Tri.block_cond ?_)
    | (refine Tri.exit ?_; simp [upd]; first | (rename ∀ st, Tri _ _ _ st _ → _ => hK; first | (apply hK; clear hK) | (clear hK; rename ∀ st, Tri _ _ _ st _ → _ => hK; first | (apply hK; clear hK) | (clear hK; rename ∀ st, Tri _ _ _ st _ → _ => hK; first | (apply hK; clear hK) | (clear hK; rename ∀ st, Tri _ _ _ st _ → _ => hK; first | (apply hK; clear hK) | (clear hK; rename ∀ st, Tri _ _ _ st _ → _ => hK; first | (apply hK; clear hK) | (clear hK; rename ∀ st, Tri _ _ _ st _ → _ => hK; apply hK; clear hK)))))) | skip)
    | (intro β)
    | (rename ∀ st, Tri _ _ _ st _ → _ => hK; apply hK; clear hK))
  rw [if_pos (by decide +kernel)]
  simp only [optK_some, RunK_apply, RunOps_cons, RunOps_nil, gateK_true, gate, put_n]
  simp [upd]
  repeat (first
    | (refine Tri.seq fun K hK => ?_)
    | (refine Tri.region ?_; simp [upd])
    | (refine Tri.draw (by kernel_rfl) (by decide +kernel) ?_; simp [upd])
    | (refine Tri.cond_true ?_ ?_; (focus simp [upd]; done))
    | (refine Tri.cond_false ?_ ?_; (focus simp [upd]; done))
    | (refine Tri.skip ?_; simp only [thenS, blockS])
    | (refine Tri.block_seq ?_)
    | (refine Tri.block_region ?_)
    | (refine Tri.block_cond ?_)
    | (refine Tri.exit ?_; simp [upd]; first | (rename ∀ st, Tri _ _ _ st _ → _ => hK; first | (apply hK; clear hK) | (clear hK; rename ∀ st, Tri _ _ _ st _ → _ => hK; first | (apply hK; clear hK) | (clear hK; rename ∀ st, Tri _ _ _ st _ → _ => hK; first | (apply hK; clear hK) | (clear hK; rename ∀ st, Tri _ _ _ st _ → _ => hK; first | (apply hK; clear hK) | (clear hK; rename ∀ st, Tri _ _ _ st _ → _ => hK; first | (apply hK; clear hK) | (clear hK; rename ∀ st, Tri _ _ _ st _ → _ => hK; apply hK; clear hK)))))) | skip)
    | (intro β)
    | (rename ∀ st, Tri _ _ _ st _ → _ => hK; apply hK; clear hK))
  refine Tri.ret ⟨_, rfl, ?_⟩
  simp [upd]
  exact Wk.of_eq (by kernel_rfl)
theorem len_1 : Does Try.prog 78 [.c (.int .u64 1)] (.c (.int .i64 1)) := by
  refine Does.of_body Try.func78 rfl (by kernel_rfl) rfl rfl (by simp) ?_
  intro E
  repeat (first
    | (refine Tri.seq fun K hK => ?_)
    | (refine Tri.region ?_; simp [upd])
    | (refine Tri.draw (by kernel_rfl) (by decide +kernel) ?_; simp [upd])
    | (refine Tri.cond_true ?_ ?_; (focus simp [upd]; done))
    | (refine Tri.cond_false ?_ ?_; (focus simp [upd]; done))
    | (refine Tri.skip ?_; simp only [thenS, blockS])
    | (refine Tri.block_seq ?_)
    | (refine Tri.block_region ?_)
    | (refine Tri.block_cond ?_)
    | ((with_reducible refine CallK.pure (len64_1) (Wks.refl _) ?_); simp [upd])
    | (refine Tri.exit ?_; simp [upd]; first | (rename ∀ st, Tri _ _ _ st _ → _ => hK; first | (apply hK; clear hK) | (clear hK; rename ∀ st, Tri _ _ _ st _ → _ => hK; first | (apply hK; clear hK) | (clear hK; rename ∀ st, Tri _ _ _ st _ → _ => hK; first | (apply hK; clear hK) | (clear hK; rename ∀ st, Tri _ _ _ st _ → _ => hK; first | (apply hK; clear hK) | (clear hK; rename ∀ st, Tri _ _ _ st _ → _ => hK; first | (apply hK; clear hK) | (clear hK; rename ∀ st, Tri _ _ _ st _ → _ => hK; apply hK; clear hK)))))) | skip)
    | (intro β)
    | (rename ∀ st, Tri _ _ _ st _ → _ => hK; apply hK; clear hK))
  refine Tri.ret ⟨_, rfl, ?_⟩
  simp [upd]
  exact Wk.refl _
theorem insert_1 (e : List C) : Does Try.prog 101 [.c (.sl false 5 none [e]), .c (.int .i64 0), .c (.int .i64 1), .c (.fn 54 [])] (.tup []) := by
  refine Does.of_body Try.func101 rfl (by kernel_rfl) rfl rfl (by simp) ?_
  intro E
  repeat (first
    | (refine Tri.seq fun K hK => ?_)
    | (refine Tri.region ?_; simp [upd])
    | (refine Tri.draw (by kernel_rfl) (by decide +kernel) ?_; simp [upd])
    | (refine Tri.cond_true ?_ ?_; (focus simp [upd]; done))
    | (refine Tri.cond_false ?_ ?_; (focus simp [upd]; done))
    | (refine Tri.skip ?_; simp only [thenS, blockS])
    | (refine Tri.block_seq ?_)
    | (refine Tri.block_region ?_)
    | (refine Tri.block_cond ?_)
    | (refine Tri.exit ?_; simp [upd]; first | (rename ∀ st, Tri _ _ _ st _ → _ => hK; first | (apply hK; clear hK) | (clear hK; rename ∀ st, Tri _ _ _ st _ → _ => hK; first | (apply hK; clear hK) | (clear hK; rename ∀ st, Tri _ _ _ st _ → _ => hK; first | (apply hK; clear hK) | (clear hK; rename ∀ st, Tri _ _ _ st _ → _ => hK; first | (apply hK; clear hK) | (clear hK; rename ∀ st, Tri _ _ _ st _ → _ => hK; first | (apply hK; clear hK) | (clear hK; rename ∀ st, Tri _ _ _ st _ → _ => hK; apply hK; clear hK)))))) | skip)
    | (intro β)
    | (rename ∀ st, Tri _ _ _ st _ → _ => hK; apply hK; clear hK))
  refine Tri.block_loop 1 (Rounds.step ?_)
  repeat (first
    | (refine Tri.seq fun K hK => ?_)
    | (refine Tri.region ?_; simp [upd])
    | (refine Tri.draw (by kernel_rfl) (by decide +kernel) ?_; simp [upd])
    | (refine Tri.cond_true ?_ ?_; (focus simp [upd]; done))
    | (refine Tri.cond_false ?_ ?_; (focus simp [upd]; done))
    | (refine Tri.skip ?_; simp only [thenS, blockS])
    | (refine Tri.block_seq ?_)
    | (refine Tri.block_region ?_)
    | (refine Tri.block_cond ?_)
    | (refine Tri.exit ?_; simp [upd]; first | (rename ∀ st, Tri _ _ _ st _ → _ => hK; first | (apply hK; clear hK) | (clear hK; rename ∀ st, Tri _ _ _ st _ → _ => hK; first | (apply hK; clear hK) | (clear hK; rename ∀ st, Tri _ _ _ st _ → _ => hK; first | (apply hK; clear hK) | (clear hK; rename ∀ st, Tri _ _ _ st _ → _ => hK; first | (apply hK; clear hK) | (clear hK; rename ∀ st, Tri _ _ _ st _ → _ => hK; first | (apply hK; clear hK) | (clear hK; rename ∀ st, Tri _ _ _ st _ → _ => hK; apply hK; clear hK)))))) | skip)
    | (intro β)
    | (rename ∀ st, Tri _ _ _ st _ → _ => hK; apply hK; clear hK))
  exact ⟨_, rfl, Wk.refl _⟩
theorem pdq_1 (e : List C) : Does Try.prog 77 [.c (.sl false 5 none [e]), .c (.int .i64 0), .c (.int .i64 1), .c (.int .i64 1), .c (.fn 54 [])] (.tup []) := by
  refine Does.of_body Try.func77 rfl (by kernel_rfl) rfl rfl (by simp) ?_
  intro E
  repeat (first
    | (refine Tri.seq fun K hK => ?_)
    | (refine Tri.region ?_; simp [upd])
    | (refine Tri.draw (by kernel_rfl) (by decide +kernel) ?_; simp [upd])
    | (refine Tri.cond_true ?_ ?_; (focus simp [upd]; done))
    | (refine Tri.cond_false ?_ ?_; (focus simp [upd]; done))
    | (refine Tri.skip ?_; simp only [thenS, blockS])
    | (refine Tri.block_seq ?_)
    | (refine Tri.block_region ?_)
    | (refine Tri.block_cond ?_)
    | (refine Tri.exit ?_; simp [upd]; first | (rename ∀ st, Tri _ _ _ st _ → _ => hK; first | (apply hK; clear hK) | (clear hK; rename ∀ st, Tri _ _ _ st _ → _ => hK; first | (apply hK; clear hK) | (clear hK; rename ∀ st, Tri _ _ _ st _ → _ => hK; first | (apply hK; clear hK) | (clear hK; rename ∀ st, Tri _ _ _ st _ → _ => hK; first | (apply hK; clear hK) | (clear hK; rename ∀ st, Tri _ _ _ st _ → _ => hK; first | (apply hK; clear hK) | (clear hK; rename ∀ st, Tri _ _ _ st _ → _ => hK; apply hK; clear hK)))))) | skip)
    | (intro β)
    | (rename ∀ st, Tri _ _ _ st _ → _ => hK; apply hK; clear hK))
  refine Tri.block_loop 1 (Rounds.step ?_)
  repeat (first
    | (refine Tri.seq fun K hK => ?_)
    | (refine Tri.region ?_; simp [upd])
    | (refine Tri.draw (by kernel_rfl) (by decide +kernel) ?_; simp [upd])
    | (refine Tri.cond_true ?_ ?_; (focus simp [upd]; done))
    | (refine Tri.cond_false ?_ ?_; (focus simp [upd]; done))
    | (refine Tri.skip ?_; simp only [thenS, blockS])
    | (refine Tri.block_seq ?_)
    | (refine Tri.block_region ?_)
    | (refine Tri.block_cond ?_)
    | ((with_reducible refine CallK.pure (insert_1 e) (Wks.refl _) ?_); simp [upd])
    | (refine Tri.exit ?_; simp [upd]; first | (rename ∀ st, Tri _ _ _ st _ → _ => hK; first | (apply hK; clear hK) | (clear hK; rename ∀ st, Tri _ _ _ st _ → _ => hK; first | (apply hK; clear hK) | (clear hK; rename ∀ st, Tri _ _ _ st _ → _ => hK; first | (apply hK; clear hK) | (clear hK; rename ∀ st, Tri _ _ _ st _ → _ => hK; first | (apply hK; clear hK) | (clear hK; rename ∀ st, Tri _ _ _ st _ → _ => hK; first | (apply hK; clear hK) | (clear hK; rename ∀ st, Tri _ _ _ st _ → _ => hK; apply hK; clear hK)))))) | skip)
    | (intro β)
    | (rename ∀ st, Tri _ _ _ st _ → _ => hK; apply hK; clear hK))
  exact Tri.ret ⟨_, rfl, Wk.refl _⟩
theorem sort_1 (e : List C) : Does Try.prog 53 [.c (.sl false 5 none [e]), .c (.fn 54 [])] (.tup []) := by
  refine Does.of_body Try.func53 rfl (by kernel_rfl) rfl rfl (by simp) ?_
  intro E
  have hw : IntKind.u64.wrap 1 = 1 := rfl
  repeat (first
    | (refine Tri.seq fun K hK => ?_)
    | (refine Tri.region ?_; simp [upd, hw])
    | (refine Tri.draw (by kernel_rfl) (by decide +kernel) ?_; simp [upd, hw])
    | (refine Tri.cond_true ?_ ?_; (focus simp [upd, hw]; done))
    | (refine Tri.cond_false ?_ ?_; (focus simp [upd, hw]; done))
    | (refine Tri.skip ?_; simp only [thenS, blockS])
    | (refine Tri.block_seq ?_)
    | (refine Tri.block_region ?_)
    | (refine Tri.block_cond ?_)
    | ((with_reducible refine CallK.pure (len_1) (Wks.refl _) ?_); simp [upd, hw])
    | ((with_reducible refine CallK.pure (pdq_1 e) (Wks.refl _) ?_); simp [upd, hw])
    | (refine Tri.exit ?_; simp [upd, hw]; first | (rename ∀ st, Tri _ _ _ st _ → _ => hK; first | (apply hK; clear hK) | (clear hK; rename ∀ st, Tri _ _ _ st _ → _ => hK; first | (apply hK; clear hK) | (clear hK; rename ∀ st, Tri _ _ _ st _ → _ => hK; first | (apply hK; clear hK) | (clear hK; rename ∀ st, Tri _ _ _ st _ → _ => hK; first | (apply hK; clear hK) | (clear hK; rename ∀ st, Tri _ _ _ st _ → _ => hK; first | (apply hK; clear hK) | (clear hK; rename ∀ st, Tri _ _ _ st _ → _ => hK; apply hK; clear hK)))))) | skip)
    | (intro β)
    | (rename ∀ st, Tri _ _ _ st _ → _ => hK; apply hK; clear hK))
  exact ⟨_, rfl, Wk.refl _⟩
end Go.Proofs.Ytngbpmiikpjiaaa
end
