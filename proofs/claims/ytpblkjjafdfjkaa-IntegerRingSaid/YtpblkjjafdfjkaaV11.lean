/- What one operation does: the proofs, sixth part (append, calls, all of it). -/
import Derived.Test.YtpblkjjafdfjkaaV10
namespace Go.Proofs.Ytpblkjjafdfjkaa.V
open Go.RowKit
set_option linter.unusedVariables false
set_option linter.unusedSimpArgs false

section
variable {P : Program} {w w' : World} {Z : Nat → Prop} {h : Hist} {live : Nat → Prop} {boxes : Boxes} {id : Nat} {u : Upd} {d : D} {v : Value}

theorem dSl_row (c : Ctx w Z h live boxes) {t : Ty} {d : D} {l : List t.den} {cons : List Nat} (hd : dSl boxes t d = some (l, cons)) (hr : Rep w (Bd Z h live) h d v) :
    ∃ A cp us, v = .slice A l.length cp ∧ RepL w (Bd Z h live) t l us ∧ (us ≠ [] → ∃ ad, A = some ad ∧ CellsAt w ad us) := by
  unfold dSl at hd
  split at hd
  · split at hd
    · rename_i t' l' e
      subst e
      simp only [Option.some.injEq, Prod.mk.injEq] at hd
      obtain ⟨rfl, rfl⟩ := hd
      simp only [Rep] at hr
      obtain ⟨A, cp, us, hv, h1, h2, h3, h4⟩ := slice_row hr
      refine ⟨A, cp, us, hv, h3, fun hne => ?_⟩
      obtain ⟨ad, e, _, _, hc⟩ := h4 (fun e => by subst e; simp only [RepL, RepLs] at h3; exact hne h3)
      exact ⟨ad, e, hc⟩
    · cases hd
  · split at hd
    · simp only [Option.some.injEq, Prod.mk.injEq] at hd
      obtain ⟨rfl, rfl⟩ := hd
      simp only [Rep] at hr
      exact ⟨_, _, [], hr, by simp only [RepL, RepLs], fun hne => absurd rfl hne⟩
    · cases hd
  · rename_i g
    split at hd
    · rename_i T t' l' hg
      split at hd
      · rename_i e
        subst e
        simp only [Option.some.injEq, Prod.mk.injEq] at hd
        obtain ⟨rfl, rfl⟩ := hd
        simp only [Rep] at hr
        obtain ⟨hb, he, hr⟩ := hr
        obtain ⟨hb', he', hlen, hok⟩ := c.hb g _ hg
        rw [he] at he'; injection he' with he'; subst he'
        show ∃ A cp us, v = .slice A l'.length cp ∧ RepL w (Bd Z h live) t' l' us ∧ (us ≠ [] → ∃ ad, A = some ad ∧ CellsAt w ad us)
        rcases hr with ⟨hblk, hl0, a, rfl⟩ | ⟨b, hblk, rfl⟩
        · have : l' = [] := List.eq_nil_of_length_eq_zero (by omega)
          subst this
          exact ⟨a, 0, [], rfl, by simp only [RepL, RepLs], fun hne => absurd rfl hne⟩
        · rcases hok with ⟨h3, _⟩ | ⟨b', cur, h3, h4, h5, h6, h7, h8⟩
          · rw [hblk] at h3; cases h3
          · rw [hblk] at h3; injection h3 with h3; subst h3
            refine ⟨_, _, _, by rw [hlen], h8, fun _ => ⟨⟨b, 0, none⟩, rfl, fun j y hy => ?_⟩⟩
            rw [add_at, cell_of_row w b (0 + j) cur T (0, 0) h4]
            rw [List.getElem?_take] at hy
            split at hy
            · simpa using hy
            · cases hy
      · cases hd
    · cases hd
  · rename_i g sz off n
    split at hd
    · rename_i T t' l' hg
      split at hd
      · rename_i e
        subst e
        split at hd
        · rename_i hsz
          subst hsz
          simp only [Option.some.injEq, Prod.mk.injEq] at hd
          obtain ⟨rfl, rfl⟩ := hd
          simp only [Rep] at hr
          obtain ⟨hb, a, he, hle, hcp, rfl, hn⟩ := hr
          obtain ⟨hb', he', hlen, hok⟩ := c.hb g _ hg
          rw [he] at he'; injection he' with he'; subst he'
          show ∃ A cp us, _ = Value.slice A (win l' off n).length cp ∧ RepL w (Bd Z h live) t' (win l' off n) us ∧ (us ≠ [] → ∃ ad, A = some ad ∧ CellsAt w ad us)
          have hw : (win l' off n).length = n := win_length (by omega)
          by_cases h0 : n = 0
          · subst h0
            have : win l' off 0 = [] := by unfold win; simp
            rw [this]
            exact ⟨a, _, [], rfl, by simp only [RepL, RepLs], fun hne => absurd rfl hne⟩
          · obtain ⟨b, hblk, rfl⟩ := hn h0
            rcases hok with ⟨h3, _⟩ | ⟨b', cur, h3, h4, h5, h6, h7, h8⟩
            · rw [hblk] at h3; cases h3
            · rw [hblk] at h3; injection h3 with h3; subst h3
              refine ⟨_, _, _, by rw [hw], (h8.drop off).take n, fun _ => ⟨_, rfl, fun j y hy => ?_⟩⟩
              rw [add_at, cell_of_row w b _ cur T (0, 0) h4]
              rw [List.getElem?_take] at hy
              split at hy
              · rw [List.getElem?_drop, List.getElem?_take] at hy
                split at hy
                · simpa using hy
                · cases hy
              · cases hy
        · cases hd
      · cases hd
    · cases hd
  · cases hd

theorem rowOk {w' : World} {B : Nat → Prop} {hh : Hist} {T : TypeId} {t : Ty} {l : List t.den} {b cap : Nat} {cur : Array Value} (h1 : w'.heap[b]? = some (.cells cur T (0, 0))) (h2 : cur.size = cap * t.size) (h3 : l.length ≤ cap) (h4 : cap ≤ maxLen) (h5 : RepL w' B t l (cur.toList.take (l.length * t.size))) :
    BoxOk1 w' B hh ⟨some b, l.length, cap⟩ (.row T t l) := ⟨rfl, .inr ⟨b, cur, rfl, h1, h2, h3, h4, h5⟩⟩
theorem lookU_app (g : Nat) (c : BoxC) (hid : id ≠ g) : lookU [(id, some c), (g, none)] id = some (some c) ∧ (∀ g' c', g' ≠ id → lookU [(id, some c), (g, none)] g' = some c' → c' = none ∧ g' = g) ∧ lookU [(id, some c), (g, none)] g = some none := by
  refine ⟨by rw [lookU_cons, if_pos rfl], fun g' c' hne hl => ?_, by rw [lookU_cons, if_neg hid, lookU_cons, if_pos rfl]⟩
  rw [lookU_cons, if_neg (Ne.symm hne), lookU_cons] at hl
  split at hl
  · rename_i e; injection hl with hl; exact ⟨hl.symm, e.symm⟩
  · cases hl

theorem append_ok (c : Ctx w Z h live boxes) (hf : h id = none) {ts : List TypeId} {ty : TypeId} {x y d : D} {ps : List Prop} {vx vy : Value} (hx : absAppend P boxes id ts x y = some (ps, d, u)) (hps : ∀ p ∈ ps, p) (hrx : Rep w (Bd Z h live) h x vx) (hry : Rep w (Bd Z h live) h y vy) :
    ∃ v w' h', (Builtin.append_ ts.toArray ty #[vx, vy]).run P w = .ok v w' ∧ Res w w' Z h h' live id u d v := by
  unfold absAppend at hx
  split at hx
  · rename_i T U
    split at hx
    · rename_i e hT
      split at hx
      · rename_i t x0 b he
        obtain ⟨i, z, hi, hz, his, hzs, hib, hx0⟩ := elemTy_ok he
        split at hx
        · rename_i m hm
          split at hm
          · rename_i e' hU
            have ha : AppOk P T U e i z := ⟨hT, ⟨e', hU⟩, hi, hz⟩
            unfold newsD at hm
            split at hm
            · rename_i m' cons hm'
              simp only [Option.some.injEq] at hm; subst hm
              obtain ⟨By, cy, news, rfl, hnr, hnc⟩ := dSl_row c hm' hry
              have hnl := hnr.length
              have hnone : ∀ g, h g ≠ none → id ≠ g := fun g hg e => hg (by rw [← e]; exact hf)
              -- the grown row
              have grow : ∀ {l : List t.den} {olds : List Value} {A : Option Addr} {cap : Nat} {uu : Upd}, RepL w (Bd Z h live) t l olds → (olds ≠ [] → ∃ ad, A = some ad ∧ CellsAt w ad olds) → cap < l.length + m'.length → (l.length + m'.length) * b ≤ 140737488355328 → l.length + m'.length ≤ 140737488355328 →
                  lookU uu id = some (some (.row e t (l ++ m'))) → (∀ g c', g ≠ id → lookU uu g = some c' → c' = none ∧ live g) →
                  ∃ v w' h', (Builtin.append_ [T, U].toArray ty #[.slice A l.length cap, .slice By m'.length cy]).run P w = .ok v w' ∧ Res w w' Z h h' live id uu (.own id) v := by
                intro l olds A cap uu hol hoc hlt hbb h63 hu1 hu2
                have hollen := hol.length
                have hrun := run_append_more (P := P) (ty := ty) (c := cy) ha (by rw [his]; exact hollen) hoc (by rw [his]; exact hnl) hnc hlt (by rw [hib]; exact hbb) h63
                have hge := grownCap_ge w (l.length + m'.length) cap e
                have hcm := grownCap_le_maxLen w (l.length + m'.length) cap e (by unfold maxLen; omega)
                generalize grownCap w (l.length + m'.length) cap e = K at *
                have hsz : (olds.toArray ++ news.toArray ++ Builtin.zeroCells z.cells (K - (l.length + m'.length))).size = K * t.size := by
                  simp only [Array.size_append, List.size_toArray, size_zeroCells, hzs, hollen, hnl]
                  rw [← Nat.add_mul, ← Nat.add_mul]; congr 1; omega
                have hB : ∀ k, k < w.heap.size → Bd Z h live k → Bd Z (setH h id ⟨some w.heap.size, (l ++ m').length, K⟩) (liveU live uu) k := fun k hk hbd =>
                  bd_new (w := w) (fun i hi => by
                    by_cases hid : i = id
                    · exact .inl hid
                    · right
                      unfold liveU at hi
                      split at hi
                      · rename_i c' hc'; have := (hu2 i _ hid hc').1; cases this
                      · exact hi.elim
                      · exact hi) (fun b' hb' => by injection hb' with hb'; omega) hk hbd
                refine ⟨_, _, _, hrun, res_gen c.hh hf hu1 hu2 (Keeps.mono (O := fun _ => False) ⟨rfl, rfl, rfl, by simp, fun k hk _ => Below.heap_alloc w.drew _ k hk⟩ (fun _ _ f => f.elim)) (fun b' hb' => ?_) ?_ (rowOk (heap_alloc_new w.drew _) hsz (by rw [List.length_append]; exact hge) hcm ?_)⟩
                · injection hb' with hb'
                  subst hb'
                  exact ⟨by simp, fun hz => Nat.lt_irrefl _ (c.hh.zlt _ hz), .inl (Nat.le_refl _)⟩
                · have := rep_own_new (h := h) (id := id) (w' := w.drew.alloc (.cells (olds.toArray ++ news.toArray ++ Builtin.zeroCells z.cells (K - (l.length + m'.length))) e)) (B := Bd Z (setH h id ⟨some w.heap.size, (l ++ m').length, K⟩) (liveU live uu)) (n := (l ++ m').length) (cap := K) (b := w.heap.size)
                  rw [List.length_append] at this ⊢
                  exact this
                · have e1 : (olds.toArray ++ news.toArray ++ Builtin.zeroCells z.cells (K - (l.length + m'.length))).toList.take ((l ++ m').length * t.size) = olds ++ news := by
                    simp only [Array.toList_append]
                    rw [show (l ++ m').length * t.size = (olds ++ news).length by rw [List.length_append, List.length_append, hollen, hnl, Nat.add_mul]]
                    exact List.take_left
                  rw [e1]
                  exact RepL.step (fun k hk hlt => ⟨hB k hlt hk, Below.heap_alloc w.drew _ k hlt⟩) (hol.append hnr)
              split at hx
              · -- nil
                simp only [Option.some.injEq, Prod.mk.injEq] at hx
                obtain ⟨rfl, rfl, rfl⟩ := hx
                have hbb := hps _ (List.mem_cons_self ..)
                have h63 := hps (m'.length ≤ 140737488355328) (by simp)
                simp only [Rep] at hrx
                subst hrx
                by_cases hm0 : m'.length = 0
                · have : m' = [] := List.eq_nil_of_length_eq_zero hm0
                  subst this
                  refine ⟨.slice none 0 0, w, setH h id ⟨none, 0, 0⟩, run_append_zero ha (Nat.le_refl _), res_none c.hh hf rfl ?_ ⟨rfl, .inl ⟨rfl, rfl, rfl⟩⟩⟩
                  simp only [Rep]
                  exact ⟨_, setH_same h id _, .inl ⟨rfl, rfl, none, rfl⟩⟩
                · have key := grow (l := []) (olds := []) (A := none) (cap := 0) (uu := [(id, some (.row e t m'))]) (by simp only [RepL, RepLs]) (fun hne => absurd rfl hne) (by simp; omega) (by simpa using hbb) (by simpa using h63) (by rw [lookU_cons, if_pos rfl]; rfl) (fun g c' hne hl => by rw [lookU_cons, if_neg (Ne.symm hne)] at hl; cases hl)
                  simpa using key
              · rename_i g
                split at hx
                · rename_i e1 t1 l hg
                  split at hx
                  · rename_i et
                    subst et
                    split at hx
                    · rename_i ee
                      subst ee
                      simp only [Option.some.injEq, Prod.mk.injEq] at hx
                      obtain ⟨rfl, rfl, rfl⟩ := hx
                      have hbb := hps _ (List.mem_cons_self ..)
                      have h63 := hps (l.length + m'.length ≤ 140737488355328) (by simp)
                      simp only [Rep] at hrx
                      obtain ⟨hb, heg, hrx⟩ := hrx
                      obtain ⟨hb', he', hlen, hok⟩ := c.hb g _ hg
                      rw [heg] at he'; injection he' with he'; subst he'
                      have hgid : id ≠ g := hnone g (by rw [heg]; simp)
                      obtain ⟨hu1, hu2, hu3⟩ := lookU_app (id := id) g (.row e1 t1 (l ++ m')) hgid
                      have hu2' : ∀ g' c', g' ≠ id → lookU [(id, some (.row e1 t1 (l ++ m'))), (g, none)] g' = some c' → c' = none ∧ live g' := fun g' c' hne hl => by
                        obtain ⟨h1, h2⟩ := hu2 g' c' hne hl
                        exact ⟨h1, by rw [h2]; exact c.hl _ _ hg⟩
                      show ∃ v w' h', (Builtin.append_ [T, U].toArray ty #[vx, .slice By m'.length cy]).run P w = .ok v w' ∧ Res w w' Z h h' live id [(id, some (.row e1 t1 (l ++ m'))), (g, none)] (.own id) v
                      rcases hrx with ⟨hblk, hl0, a, rfl⟩ | ⟨bb, hblk, rfl⟩
                      · have hl : l = [] := List.eq_nil_of_length_eq_zero (by omega)
                        subst hl
                        by_cases hm0 : m'.length = 0
                        · have : m' = [] := List.eq_nil_of_length_eq_zero hm0
                          subst this
                          refine ⟨.slice a 0 0, w, setH h id ⟨none, 0, 0⟩, run_append_zero ha (Nat.le_refl _), res_gen c.hh hf hu1 hu2' (Keeps.refl _ _) (fun b' hb' => by cases hb') ?_ ⟨rfl, .inl ⟨rfl, rfl, rfl⟩⟩⟩
                          simp only [Rep]
                          exact ⟨_, setH_same h id _, .inl ⟨rfl, rfl, a, rfl⟩⟩
                        · exact grow (l := []) (olds := []) (A := a) (cap := 0) (by simp only [RepL, RepLs]) (fun hne => absurd rfl hne) (by simp; omega) hbb h63 hu1 hu2'
                      · rcases hok with ⟨h3, _⟩ | ⟨b', cur, h3, h4, h5, h6, h7, h8⟩
                        · rw [hblk] at h3; cases h3
                        · rw [hblk] at h3; injection h3 with h3; subst h3
                          rw [← hlen] at h6 h8 ⊢
                          by_cases hcap : l.length + m'.length ≤ hb.cap
                          · have hin : l.length * t1.size + news.length ≤ cur.size := by rw [hnl, h5, ← Nat.add_mul]; exact Nat.mul_le_mul_right _ hcap
                            have hrun := run_append_fit (P := P) (ty := ty) (c := cy) (n := l.length) (cap := hb.cap) ha h4 (by rw [his]; exact hnl) hnc (RepLs.all (fun x us hx => RepT.one hx) hnr) hcap (by rw [his]; exact hin)
                            rw [his] at hrun
                            refine ⟨_, _, setH h id ⟨some bb, (l ++ m').length, hb.cap⟩, hrun, res_gen c.hh hf hu1 hu2' (Keeps.setRow _ _ _ _ ⟨g, hb, by rw [hu3]; rfl, c.hl _ _ hg, heg, hblk⟩) (fun b' hb' => ?_) ?_ (rowOk (setRow_heap w bb cur _ e1 (0, 0) h4) ?_ (by rw [List.length_append]; exact hcap) h7 ?_)⟩
                            · injection hb' with hb'
                              subst hb'
                              refine ⟨by simp [World.setRow]; exact c.hh.lt g hb bb heg hblk, c.hh.nz g hb bb (c.hl _ _ hg) heg hblk, .inr ⟨g, hb, hu3, c.hl _ _ hg, heg, hblk⟩⟩
                            · have := rep_own_new (h := h) (id := id) (w' := w.setRow bb (cur.toList.take (l.length * t1.size) ++ news ++ cur.toList.drop (l.length * t1.size + news.length)).toArray) (B := Bd Z (setH h id ⟨some bb, (l ++ m').length, hb.cap⟩) (liveU live [(id, some (.row e1 t1 (l ++ m'))), (g, none)])) (n := (l ++ m').length) (cap := hb.cap) (b := bb)
                              rw [List.length_append] at this ⊢
                              exact this
                            · simp only [List.size_toArray, List.length_append, List.length_take, List.length_drop, Array.length_toList]; omega
                            · have e1' : (cur.toList.take (l.length * t1.size) ++ news ++ cur.toList.drop (l.length * t1.size + news.length)).take ((l ++ m').length * t1.size) = cur.toList.take (l.length * t1.size) ++ news := by
                                have hmin : l.length * t1.size ≤ cur.size := by omega
                                have hcl : cur.toList.length = cur.size := Array.length_toList
                                have hl1 : (cur.toList.take (l.length * t1.size) ++ news).length = (l ++ m').length * t1.size := by
                                  rw [List.length_append, List.length_append, List.length_take, hcl, Nat.min_eq_left hmin, hnl, Nat.add_mul]
                                rw [← hl1]; exact List.take_left
                              show RepL _ _ t1 (l ++ m') ((cur.toList.take (l.length * t1.size) ++ news ++ cur.toList.drop (l.length * t1.size + news.length)).take ((l ++ m').length * t1.size))
                              rw [e1']
                              refine RepL.step ?_ (h8.append hnr)
                              intro k hk hlt
                              have hkb : k ≠ bb := fun e => hk.2 g hb (c.hl _ _ hg) heg (by rw [hblk, e])
                              refine ⟨⟨hk.1, fun i hi hl he hbl => ?_⟩, setRow_other w bb k _ hkb⟩
                              by_cases hid : i = id
                              · subst hid
                                rw [setH_same] at he
                                injection he with he
                                subst he
                                injection hbl with hbl
                                exact hkb hbl.symm
                              · rw [setH_ne h _ hid] at he
                                have hli : live i := by
                                  unfold liveU at hl
                                  split at hl
                                  · rename_i c' hc'; exact (hu2' i _ hid hc').2
                                  · exact hl.elim
                                  · exact hl
                                exact hk.2 i hi hli he hbl
                          · refine grow (l := l) (A := some ⟨bb, 0, none⟩) (cap := hb.cap) h8 (fun _ => ⟨_, rfl, fun j y hy => ?_⟩) (by omega) hbb h63 hu1 hu2'
                            rw [add_at, cell_of_row w bb (0 + j) cur e1 (0, 0) h4]
                            rw [List.getElem?_take] at hy
                            split at hy
                            · simpa using hy
                            · cases hy
                    · cases hx
                  · cases hx
                · cases hx
              · cases hx
            · cases hm
          · cases hm
        · cases hx
      · cases hx
    · cases hx
  · cases hx

/-! ### Calls -/
theorem D.within_mono {p q : Nat → Bool} (hpq : ∀ g, p g = true → q g = true) : ∀ d : D, d.within p = true → d.within q = true
  | .any, _ | .val _, _ | .sl _ _, _ | .elt _ _ _ _, _ | .arr _ _, _ => rfl
  | .box g _, hd => hpq g hd
  | .own g, hd => hpq g hd
  | .win g _ _ _, hd => hpq g hd
  | .rel g _ _ _, hd => hpq g hd
  | .agg cs, hd => within_monos hpq cs hd
  | .tup cs, hd => within_monos hpq cs hd
  | .ptr cs _, hd => within_monos hpq cs hd
  | .clo _ cs, hd => within_monos hpq cs hd
where within_monos {p q : Nat → Bool} (hpq : ∀ g, p g = true → q g = true) : ∀ ds : List D, D.within.withins p ds = true → D.within.withins q ds = true
  | [], _ => rfl
  | d :: ds, hd => by
    simp only [D.within.withins, Bool.and_eq_true] at hd ⊢
    exact ⟨D.within_mono hpq d hd.1, within_monos hpq ds hd.2⟩
theorem absCall1_ok {f : FuncId} {ds : List D} {bx bx' : List BoxC} {pre : Prop} : ∀ {S : List (Spec P)}, absCall1 P f ds bx S = some (pre, d, bx') → pre →
    GCt P f bx ds d bx' ∧ ∀ (args : Array Value) (w : World), (callFunc f args).run P w = .ok (.enter f args) w
  | [], hx, _ => by simp [absCall1] at hx
  | s :: S, hx, hp => by
    simp only [absCall1] at hx
    split at hx
    · rename_i hf
      have hf := Nat.eq_of_beq_eq_true hf
      subst hf
      split at hx
      · rename_i r hr
        simp only [Option.some.injEq] at hx
        subst hx
        exact ⟨s.ok _ _ _ _ _ hr hp, s.enters⟩
      · exact absCall1_ok hx hp
    · exact absCall1_ok hx hp
theorem datas_ok (c : Ctx w Z h live boxes) : ∀ {ds ds' : List D} {us : List Value} {cons : List Nat}, dataD.datas boxes ds = some (ds', cons) → Reps w (Bd Z h live) h ds us → (∀ g ∈ cons, live g) ∧ ∀ live', Dead live live' cons → Reps w (Bd Z h live') (fun _ => none) ds' us
  | [], ds', us, cons, hx, hr => by
    simp only [dataD.datas, Option.some.injEq, Prod.mk.injEq] at hx
    obtain ⟨rfl, rfl⟩ := hx
    exact ⟨fun g hg => (by cases hg), fun _ _ => by simpa only [Reps] using hr⟩
  | d :: ds, ds', us, cons, hx, hr => by
    simp only [dataD.datas] at hx
    split at hx
    · rename_i d' a ds'' b h1 h2
      simp only [Option.some.injEq, Prod.mk.injEq] at hx
      obtain ⟨rfl, rfl⟩ := hx
      simp only [Reps] at hr
      obtain ⟨u, us', rfl, hr1, hr2⟩ := hr
      obtain ⟨a1, a2⟩ := dataD_ok c h1 hr1
      obtain ⟨b1, b2⟩ := datas_ok c h2 hr2
      refine ⟨fun g hg => (List.mem_append.1 hg).elim (a1 g) (b1 g), fun live' hd => ?_⟩
      simp only [Reps]
      exact ⟨u, us', rfl, a2 live' hd.left, b2 live' hd.right⟩
    · cases hx
where dataD_ok (c : Ctx w Z h live boxes) : ∀ {d d' : D} {u : Value} {cons : List Nat}, dataD boxes d = some (d', cons) → Rep w (Bd Z h live) h d u → (∀ g ∈ cons, live g) ∧ ∀ live', Dead live live' cons → Rep w (Bd Z h live') (fun _ => none) d' u
  | .own g, d', u, cons, hx, hr => by
    simp only [dataD] at hx
    split at hx
    · rename_i T t l hg
      simp only [Option.some.injEq, Prod.mk.injEq] at hx
      obtain ⟨rfl, rfl⟩ := hx
      exact ⟨fun g' hg' => by simp at hg'; subst hg'; exact c.hl _ _ hg, fun live' hd => by simp only [Rep]; exact own_slice c hg hr hd⟩
    · cases hx
  | .win g sz off n, d', u, cons, hx, hr => by
    simp only [dataD] at hx
    split at hx
    · rename_i T t l hg
      split at hx
      · rename_i hsz
        simp only [Option.some.injEq, Prod.mk.injEq] at hx
        obtain ⟨rfl, rfl⟩ := hx
        exact ⟨fun g' hg' => by simp at hg'; subst hg'; exact c.hl _ _ hg, fun live' hd => by simp only [Rep]; exact win_slice c hg hsz hr hd⟩
      · cases hx
    · cases hx
  | .agg cs, d', u, cons, hx, hr => by
    simp only [dataD] at hx
    split at hx
    · rename_i cs' a h1
      simp only [Option.some.injEq, Prod.mk.injEq] at hx
      obtain ⟨rfl, rfl⟩ := hx
      simp only [Rep] at hr
      obtain ⟨vs, rfl, hv⟩ := hr
      obtain ⟨a1, a2⟩ := datas_ok c h1 hv
      exact ⟨a1, fun live' hd => by simp only [Rep]; exact ⟨vs, rfl, a2 live' hd⟩⟩
    · cases hx
  | .tup cs, d', u, cons, hx, hr => by
    simp only [dataD] at hx
    split at hx
    · rename_i cs' a h1
      simp only [Option.some.injEq, Prod.mk.injEq] at hx
      obtain ⟨rfl, rfl⟩ := hx
      simp only [Rep] at hr
      obtain ⟨vs, rfl, hv⟩ := hr
      obtain ⟨a1, a2⟩ := datas_ok c h1 hv
      exact ⟨a1, fun live' hd => by simp only [Rep]; exact ⟨vs, rfl, a2 live' hd⟩⟩
    · cases hx
  | .box _ _, d', u, cons, hx, hr => by simp [dataD] at hx
  | .rel _ _ _ _, d', u, cons, hx, hr => by simp [dataD] at hx
  | .ptr cs off, d', u, cons, hx, hr => by
    simp only [dataD] at hx
    split at hx
    · rename_i hfr
      simp only [Option.some.injEq, Prod.mk.injEq] at hx
      obtain ⟨rfl, rfl⟩ := hx
      refine ⟨fun g hg => (by cases hg), fun live' hd => ?_⟩
      exact Rep.hist (p := fun _ => false) (fun _ hp => by cases hp) (.ptr cs off) u hfr (Rep.step (Agree.mono fun k hk => hk.less hd.1) (Ext.refl h) _ _ hr)
    · cases hx
  | .clo f cs, d', u, cons, hx, hr => by
    simp only [dataD] at hx
    split at hx
    · rename_i hfr
      simp only [Option.some.injEq, Prod.mk.injEq] at hx
      obtain ⟨rfl, rfl⟩ := hx
      refine ⟨fun g hg => (by cases hg), fun live' hd => ?_⟩
      exact Rep.hist (p := fun _ => false) (fun _ hp => by cases hp) (.clo f cs) u hfr (Rep.step (Agree.mono fun k hk => hk.less hd.1) (Ext.refl h) _ _ hr)
    · cases hx
  | .any, d', u, cons, hx, hr => by
    simp only [dataD, Option.some.injEq, Prod.mk.injEq] at hx
    obtain ⟨rfl, rfl⟩ := hx
    exact ⟨fun g hg => (by cases hg), fun live' hd => by simp only [Rep]⟩
  | .val v, d', u, cons, hx, hr => by
    simp only [dataD, Option.some.injEq, Prod.mk.injEq] at hx
    obtain ⟨rfl, rfl⟩ := hx
    exact ⟨fun g hg => (by cases hg), fun live' hd => by simpa only [Rep] using hr⟩
  | .sl t l, d', u, cons, hx, hr => by
    simp only [dataD, Option.some.injEq, Prod.mk.injEq] at hx
    obtain ⟨rfl, rfl⟩ := hx
    exact ⟨fun g hg => (by cases hg), fun live' hd => by simp only [Rep] at hr ⊢; exact RepT.step (Agree.mono fun k hk => hk.less hd.1) hr⟩
  | .elt t l i j, d', u, cons, hx, hr => by
    simp only [dataD, Option.some.injEq, Prod.mk.injEq] at hx
    obtain ⟨rfl, rfl⟩ := hx
    exact ⟨fun g hg => (by cases hg), fun live' hd => Rep.hist (p := fun _ => false) (fun _ hp => by cases hp) (.elt t l i j) u rfl (Rep.step (Agree.mono fun k hk => hk.less hd.1) (Ext.refl h) _ _ hr)⟩
  | .arr t l, d', u, cons, hx, hr => by
    simp only [dataD, Option.some.injEq, Prod.mk.injEq] at hx
    obtain ⟨rfl, rfl⟩ := hx
    exact ⟨fun g hg => (by cases hg), fun live' hd => by
      simp only [Rep] at hr ⊢
      obtain ⟨vs, rfl, hv⟩ := hr
      exact ⟨vs, rfl, RepLs.imp (fun x us hx => RepT.step (Agree.mono fun k hk => hk.less hd.1) hx) hv⟩⟩
theorem flat_any {B B' : Nat → Prop} {h' : Hist} {w' : World} : ∀ {d : D} {u : Value}, d.flat = true → Rep w B h d u → Rep w' B' h' d u
  | .val v, u, _, hr => by simpa only [Rep] using hr
  | .agg cs, u, hf, hr => by
    simp only [Rep] at hr ⊢
    obtain ⟨vs, rfl, hv⟩ := hr
    exact ⟨vs, rfl, flats_any hf hv⟩
  | .tup cs, u, hf, hr => by
    simp only [Rep] at hr ⊢
    obtain ⟨vs, rfl, hv⟩ := hr
    exact ⟨vs, rfl, flats_any hf hv⟩
  | .any, _, hf, _ | .sl _ _, _, hf, _ | .elt _ _ _ _, _, hf, _ | .arr _ _, _, hf, _ | .box _ _, _, hf, _ | .own _, _, hf, _ | .win _ _ _ _, _, hf, _ | .rel _ _ _ _, _, hf, _ | .ptr _ _, _, hf, _ | .clo _ _, _, hf, _ => by cases hf
where flats_any {B B' : Nat → Prop} {h' : Hist} {w' : World} : ∀ {ds : List D} {us : List Value}, D.flat.flats ds = true → Reps w B h ds us → Reps w' B' h' ds us
  | [], us, _, hr => by simpa only [Reps] using hr
  | d :: ds, us, hf, hr => by
    simp only [D.flat.flats, Bool.and_eq_true] at hf
    simp only [Reps] at hr ⊢
    obtain ⟨u, us', rfl, h1, h2⟩ := hr
    exact ⟨u, us', rfl, flat_any hf.1 h1, flats_any hf.2 h2⟩

/-- The zone of a callee: the caller's, and the live boxes that it does not get. -/
def zoneC (Z : Nat → Prop) (h : Hist) (live' : Nat → Prop) : Nat → Prop := fun k => Z k ∨ ∃ i hb, live' i ∧ h i = some hb ∧ hb.blk = some k
theorem bd_zoneC {live' : Nat → Prop} {k : Nat} {h0 : Hist} {l0 : Nat → Prop} (h0n : ∀ i, l0 i → h0 i = none) : Bd (zoneC Z h live') h0 l0 k ↔ Bd Z h live' k := by
  unfold Bd zoneC
  constructor
  · rintro ⟨h1, _⟩
    exact ⟨fun hz => h1 (.inl hz), fun i hb hl he hblk => h1 (.inr ⟨i, hb, hl, he, hblk⟩)⟩
  · rintro ⟨h1, h2⟩
    exact ⟨fun hz => hz.elim h1 (fun ⟨i, hb, hl, he, hblk⟩ => h2 i hb hl he hblk), fun i hb hl he => by rw [h0n i hl] at he; cases he⟩
theorem callPlain_ok (c : Ctx w Z h live boxes) {S : List (Spec P)} {f : FuncId} {ds : List D} {us : List Value} {ps : List Prop} (hx : callPlain P S boxes f ds = some (ps, d, u)) (hps : ∀ p ∈ ps, p) (hr : Reps w (Bd Z h live) h ds us) :
    (∀ (args : Array Value) (w : World), (callFunc f args).run P w = .ok (.enter f args) w) ∧ Calls P f us.toArray w fun e w' => ∃ v, e = .returned v ∧ Res w w' Z h h live id u d v := by
  unfold callPlain at hx
  split at hx
  · rename_i ds' cons h1
    split at hx
    · rename_i pre d' bx h2
      split at hx
      · rename_i hfree
        simp only [Option.some.injEq, Prod.mk.injEq] at hx
        obtain ⟨rfl, rfl, rfl⟩ := hx
        obtain ⟨hct, hent⟩ := absCall1_ok h2 (hps _ (List.mem_singleton.2 rfl))
        refine ⟨hent, ?_⟩
        obtain ⟨a1, a2⟩ := datas_ok c h1 hr
        have hreps := a2 _ (bd_dead (live := live) (c := .cells 0 []))
        have hbd : ∀ k, Bd (zoneC Z h (fun i => live i ∧ i ∉ cons)) (fun _ => none) (fun i => i < ([] : List BoxC).length) k ↔ Bd Z h (fun i => live i ∧ i ∉ cons) k := fun k => bd_zoneC (fun _ _ => rfl)
        have hcall := hct w (zoneC Z h (fun i => live i ∧ i ∉ cons)) (fun _ => none) us ⟨fun i j hi hj b h1 => absurd h1 (by simp), fun i hb b he => (by cases he), fun i hb b h1 => absurd h1 (by simp), fun k hk => hk.elim (c.hh.zlt k) (fun ⟨i, hb, hl, he, hblk⟩ => c.hh.lt i hb k he hblk)⟩
          (fun _ _ => rfl) (fun g c hg => by simp at hg) (Reps.step (Agree.mono fun k hk => (hbd k).2 hk) (Ext.refl _) _ _ hreps)
        refine hcall.mono ?_
        rintro e w' ⟨v, rfl, hrv, _, _, hk⟩
        refine ⟨v, rfl, ?_⟩
        have hkeep : Keeps w w' (fun _ => False) := hk.mono (fun k _ ⟨i, hb, hl, _⟩ => by simp at hl)
        have hv : Rep w' (Bd Z h (fun i => live i ∧ i ∉ cons)) h d' v := Rep.hist (p := fun _ => false) (fun _ hp => by cases hp) d' v hfree (Rep.step (Agree.mono fun k hk => (hbd k).1 hk) (Ext.refl _) _ _ hrv)
        cases hfl : d'.flat with
        | true => exact res_more (cons := []) c.hh hkeep (fun _ hg => by cases hg) (flat_any hfl hv)
        | false =>
          refine res_more c.hh hkeep a1 (Rep.step (Agree.mono fun k hk => ?_) (Ext.refl _) _ _ hv)
          exact hk.less fun i hi => (liveU_drop cons i).1 hi
      · cases hx
    · cases hx
  · cases hx
end
end Go.Proofs.Ytpblkjjafdfjkaa.V
