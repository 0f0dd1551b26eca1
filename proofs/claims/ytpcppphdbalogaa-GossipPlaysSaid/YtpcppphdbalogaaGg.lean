/-
  Gossip: Flood.
-/
import Derived.Test.YtpcppphdbalogaaGf
import Derived.StillTailTactics
namespace Go.Proofs.Ytpcppphdbalogaa
open Go.RowKit Go.Sort

theorem still_load {P : Program} {o : Oper} {a : Act} {w : World} {next : Act → Prop} (t : TypeId) (x : Operand) (addr v : Value) (ho : o.op = .load t x) (hx : a.eval x = addr) (hl : (Instr.loadAt t addr).run P w = .ok v w) (h : next (a.put o.dst v)) : o.still P a w next := by
  unfold Oper.still execOp
  simp [ho, hx, hl, Oper.stillUpon, Result.andThen]
  exact h

theorem wpList_put {ops : Array Oper} {rest : List Oper} {o : Oper} {a : Act} {w : World} {Q : Exit → Act → World → Prop} {b n : Nat} {T : List Int → Bool} {zs : List Int}
    (hg : o.guard = none) (m x v : Operand) (hop : o.op = Op.mapUpdate 55 m x v) (hm : a.eval m = .map (some b)) (hx : a.eval x = hv zs) (hvv : a.eval v = .bool true) (h : Tld w b n T) (hn : n < maxLen) (hz : IsH zs)
    (hK : ∀ w', Tld w' b (n + 1) (fun x => decide (x = zs) || T x) → w.grownBy w' (some b) → wpList Try.prog ops Q rest (a.put o.dst undef) w') : wpList Try.prog ops Q (o :: rest) a w := by
  refine wpList_plain hg fun K' hK' => ?_
  obtain ⟨w', hrun, r1, r2⟩ := h.put hn hz
  unfold Oper.wp
  simp [execOp, hop, hm, hx, hvv, hrun, Result.andThen]
  exact hK' _ _ (hK w' r1 r2)

/-- who is told, and what was told then. -/
def flr (m : Nat) (me f : Int) (T : List Int → Bool) (zs : List Int) (l : List Int) : List Int := if T zs then [] else oth m me (fun k => k != f) l
def put (T : List Int → Bool) (zs : List Int) : List Int → Bool := fun x => decide (x = zs) || T x
theorem put_same {T : List Int → Bool} {zs : List Int} (h : T zs = true) : put T zs = T := by
  funext x
  unfold put
  by_cases e : x = zs
  · subst e; simp [h]
  · simp [e]

theorem isl_map {W w2 : World} {a : Option Addr} {n tb N : Nat} {l : List Int} {T : List Int → Bool} (h : IsL W a n l) (ht : Tld W tb N T) (hg : W.grownBy w2 (some tb)) : IsL w2 a n l := by
  obtain ⟨e1, e2, e3, e4⟩ := h
  refine ⟨e1, e2, e3, fun h0 => ?_⟩
  obtain ⟨ad, ha, hb, hc⟩ := e4 h0
  refine ⟨ad, ha, Nat.lt_of_lt_of_le hb hg.size, fun j u hu => ?_⟩
  have c := hc j u hu
  have hne : some (ad.add j).block ≠ some tb := by
    intro e
    injection e with e
    obtain ⟨D, ⟨es, ck, hm, _⟩, _⟩ := ht
    rw [← e] at hm
    simp [World.cell?, hm] at c
  exact (World.cell?_of_block (hg.block _ (by rw [block_of_add]; exact hb) hne)).trans c

set_option maxHeartbeats 1000000 in
theorem flood_any (g d tb N m n c : Nat) (me fan s f : Int) (T : List Int → Bool) (zs : List Int) (a : Option Addr) (l : List Int) (w : World) (h : Gos w g d tb N m me fan s T) (hz : IsH zs) (hm : m ≤ 64) (hl : IsL w a n l) (hn : n ≤ 1000) (hN : N < 1000) :
    Calls Try.prog 13 #[.pointer (some ⟨g, 0, none⟩), hv zs, .slice a n c, .int .i64 f] w fun e w' => ∃ v, e = .returned v ∧
      w'.ownsRow w.heap.size 3 1 v (flr m me f T zs l).length (ints (flr m me f T zs l)) ∧ Gos w' g d tb (N + 1) m me fan s (put T zs) ∧ w.grownBy w' (some tb) := by
  have hc4 := (gos_cells h.blk).2.2.2.2
  have hglt := h.blk.lt
  obtain ⟨cs, hcs⟩ : ∃ cs, (zs.map (Value.int .u8)).toArray = cs := ⟨_, rfl⟩
  have hcv : hv zs = .agg cs := by rw [← hcs]; rfl
  obtain ⟨W, hW⟩ : ∃ W, W = (w.alloc (.cells cs 36)).alloc (.cells #[.int .i64 f] 3) := ⟨_, rfl⟩
  have hB : Below w.heap.size w W := by rw [hW]; exact ((Below.refl _ w).alloc (Nat.le_refl _) _).alloc (by simp) _
  have hG := h.all hB
  have hlW := isl_below hl hB
  have hWs : W.heap.size = w.heap.size + 2 := by rw [hW]; simp
  have hbk : Blk W w.heap.size 36 (zs.map (Value.int .u8)).toArray := by rw [hW, hcs]; exact (Blk.new w 36 cs).alloc _
  have hfk : Blk W (w.heap.size + 1) 3 #[.int .i64 f] := by rw [hW]; simpa using Blk.new (w.alloc (.cells cs 36)) 3 #[.int .i64 f]
  have hL : ∀ nq, (Instr.loadAt 36 (.pointer (some ⟨w.heap.size, 0, none⟩))).run Try.prog (W.drewN nq) = .ok (.agg cs) (W.drewN nq) := fun nq => by rw [← hcv]; exact load36 hz.1 (hbk.drewN nq)
  have hL2 : ∀ nq, (Instr.loadAt 36 (.pointer (some ⟨w.heap.size, 0, none⟩))).run Try.prog (W.drewN nq).drew = .ok (.agg cs) (W.drewN nq).drew := fun nq => by rw [← hcv]; exact load36 hz.1 (hbk.drewN nq).drew
  have hK : ∀ nq, (Instr.lookup 55 (.map (some tb)) (.agg cs) false).run Try.prog (W.drewN nq) = .ok (.bool (T zs)) (W.drewN nq) := fun nq => by rw [← hcv]; exact (hG.tld.drewN nq).look hz
  have hc4W : W.cell? ⟨g, 4, none⟩ = some (.map (some tb)) := (hB.cell (p := ⟨g, 4, none⟩) hglt).trans hc4
  rw [hcv]
  have HX := Lib.hid hcv
  have HB := Lib.hid hB
  have HG := Lib.hid hG
  have HlW := Lib.hid hlW
  have Hf := Lib.hid hfk
  have HZ := Lib.hid hz
  have HT : Hid (∀ b, T zs = b → flr m me f T zs l = if b then [] else oth m me (fun k => k != f) l) := by intro b hb; unfold flr; rw [hb]
  obtain ⟨tz, htz⟩ : ∃ tz, T zs = tz := ⟨_, rfl⟩
  have Htz := Lib.hid htz
  rw [htz] at hK
  have HWs := Lib.hid hWs
  clear hcv hB hG hlW hfk hbk h hz hl htz hcs hc4 hWs
  go_enter Try.func13, Try.ntmps13
  go_wp2_with fail
  rw [← hW]
  clear hW
  refine wp_region_quiet_lit (by kernel_rfl) (by kernel_rfl) ?_
  iterate 7 (quiet_step (fail))
  refine wpQuiet_step (fun K hK => ?_)
  rw [if_pos (by rfl)]
  refine ⟨.agg cs, fun w' hw' => ?_, ?_⟩
  · obtain ⟨nq, rfl⟩ := hw'
    exact quiet_load 36 _ _ _ rfl rfl (hL nq)
  go_simp
  refine hK _ ?_
  clear hK K hL
  repeat (quiet_step (fail))
  refine wpQuiet_nil ?_
  intro _ hw'
  obtain ⟨nq, hw''⟩ := hw'
  subst hw''
  cases tz with
  | true =>
    clear hL2 hK
    go_wp2_with fail
    go_ret
    refine ⟨_, rfl, ?_, ?_, grown_below (below_dN HB.out _) _⟩
    · rw [HT.out true Htz.out, if_pos rfl]
      exact World.ownsRow_nil _ _ _ _
    · rw [put_same Htz.out]
      exact ⟨HG.out.blk.drewN _, HG.out.die, (HG.out.tld.mono (Nat.le_succ N)).drewN _⟩
  | false =>
    clear hK
    go_wp2_with fail
    refine wp_region_still_tail 5 (by kernel_rfl) (by kernel_rfl) ?_
    simp only [List.take_succ_cons, List.take_zero, List.drop_succ_cons, List.drop_zero]
    change wpStill _ _ (World.drew _) (fun a' => wpList _ _ _ _ a' (World.drew _)) _ _
    have hcW : (W.drewN nq).drew.cell? ⟨g, 4, none⟩ = some (.map (some tb)) := hc4W
    have hgW : W.grownBy (W.drewN nq).drew none := ⟨rfl, rfl, rfl, Nat.le_refl _, fun _ _ _ => rfl⟩
    have hL3 := hL2 nq
    clear hL2 hc4W
    generalize (W.drewN nq).drew = W2 at hcW hgW hL3
    iterate 4 (still_step)
    refine wpStill_step (fun K hK => ?_)
    rw [if_pos (by rfl)]
    refine still_load 36 _ _ (.agg cs) rfl rfl hL3 ?_
    go_simp
    refine hK _ ?_
    clear hK K hL3
    refine wpStill_nil ?_
    have ht1 := HG.out.tld.kept hgW (by simp)
    refine wpList_put rfl _ _ _ rfl rfl HX.out.symm rfl ht1 (by unfold maxLen; omega) HZ.out ?_
    intro w2 ht2 hg2
    have hg3 : W.grownBy w2 (some tb) := ⟨hg2.os.trans hgW.os, hg2.tape.trans hgW.tape, hg2.output.trans hgW.output, Nat.le_trans hgW.size hg2.size, fun k hk hne => (hg2.block k (Nat.lt_of_lt_of_le hk hgW.size) hne).trans (hgW.block k hk (by simp))⟩
    have hne1 : some g ≠ some tb := fun e => HG.out.gt (by injection e)
    have hG2 : Gos w2 g d tb (N + 1) m me fan s (put T zs) := ⟨HG.out.blk.grown hg3 hne1, die_block HG.out.die (hg3.block d (die_lt HG.out.die) (fun e => HG.out.dt (by injection e))), ht2⟩
    have hl2 := isl_map HlW.out HG.out.tld hg3
    have hft : w.heap.size + 1 ≠ tb := by
      rintro rfl
      obtain ⟨D, ⟨es, ck, hm', _⟩, _⟩ := HG.out.tld
      have h1 : W.heap[w.heap.size + 1]? = _ := Hf.out
      rw [hm'] at h1
      injection h1 with h1
      cases h1
    have hf2 : w2.cell? ⟨w.heap.size + 1, 0, none⟩ = some (.int .i64 f) := (Hf.out.grown hg3 (fun e => hft (by injection e))).cell 0
    have HO := Lib.hid (others_from g d tb m n c (w.heap.size + 1) f me fan a l w2 hG2.blk hm hl2 hn hf2)
    have HG2 := Lib.hid hG2
    have hg4 : w.grownBy w2 (some tb) := ⟨hg3.os.trans HB.out.os, hg3.tape.trans HB.out.tape, hg3.output.trans HB.out.output, Nat.le_trans HB.out.size hg3.size, fun k hk hne => (hg3.block k (Nat.lt_of_lt_of_le hk HB.out.size) hne).trans (HB.out.block k hk)⟩
    clear hG2 hl2 hf2 ht1 hg2 hg3 ht2 hgW hcW
    go_wp2_with fail
    refine HO.out.mono ?_
    rintro e w3 ⟨v, rfl, ho, hB3⟩
    have hR := HT.out false Htz.out
    rw [if_neg (by simp)] at hR
    rw [← hR] at ho
    have HR := Lib.hid (own_base ho hg4.size)
    have hG3 := Lib.hid (HG2.out.all hB3)
    have hg5 := grown_below hB3 (some tb)
    clear ho hR
    go_wp2_with fail
    go_ret
    exact ⟨_, rfl, HR.out, hG3.out, grown_step hg4 hg5 (fun k e => .inl (by injection e with e; exact e.symm))⟩
end Go.Proofs.Ytpcppphdbalogaa
