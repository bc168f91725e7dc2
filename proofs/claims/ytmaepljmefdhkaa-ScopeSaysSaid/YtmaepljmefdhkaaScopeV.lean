import Derived.Test.YtmaepljmefdhkaaScopeT
import Derived.Test.YtmaepljmefdhkaaScopeU
import Derived.Test.YtmaepljmefdhkaaReg1
namespace Go.Proofs.Ytmaepljmefdhkaa
open Go.RowKit Go.Maps
set_option maxHeartbeats 4000000
set_option maxRecDepth 100000

theorem cell3 {w : World} {o1 o2 o3 : Obj} {a : Addr} {v : Value} (h : w.cell? a = some v) : (((w.alloc o1).alloc o2).alloc o3).drew.cell? a = some v := by
  have hb := block_lt_of_cell h
  show (((w.alloc o1).alloc o2).alloc o3).cell? a = some v
  rw [World.cell?_alloc_lt _ _ _ (by simp; omega), World.cell?_alloc_lt _ _ _ (by simp; omega), World.cell?_alloc_lt _ _ _ hb]
  exact h
theorem blk3 (w : World) (o1 o2 o3 : Obj) : (((w.alloc o1).alloc o2).alloc o3).drew.heap[w.heap.size]? = some o1 ∧ (((w.alloc o1).alloc o2).alloc o3).drew.heap[w.heap.size + 1]? = some o2 ∧ (((w.alloc o1).alloc o2).alloc o3).drew.heap[w.heap.size + 1 + 1]? = some o3 := by
  refine ⟨?_, ?_, ?_⟩
  · exact (Below.heap_alloc _ _ _ (by simp; omega)).trans ((Below.heap_alloc _ _ _ (by simp)).trans (heap_alloc_new w o1))
  · refine (Below.heap_alloc _ _ _ (by simp)).trans ?_
    have := heap_alloc_new (w.alloc o1) o2
    simpa using this
  · have := heap_alloc_new ((w.alloc o1).alloc o2) o3
    rw [World.size_alloc, World.size_alloc] at this
    exact this
theorem push_step {C : Ctx} {w W w1 : World} {G : Nat → Nat} {st : St} (hR : Rep C W G st) (hS : Stp G w G W) {pv : Value} (hrow : W.heap[C.wk]? = some (.cells (wkRow C st pv) 115 (0, 0))) (hpb : ∀ j, pv.ownBlock = some j → G j = 4) {m : Nat} {o : Obj} {g cap : Nat} {d : Int}
    (hown : w1.ownsRow 0 3 1 (.slice (some ⟨g, 0, none⟩) (st.progs.length + 1) cap) (st.progs.length + 1) (intL st.progs ++ [.int .i64 d]))
    (hg : ((W.drewN m).alloc o).grownBy w1 pv.ownBlock) (hat : pv.ownBlock = some g ∨ g = ((W.drewN m).alloc o).heap.size) :
    ∃ G', Hid (Rep C (w1.setCell ⟨C.wk, 5, none⟩ (.slice (some ⟨g, 0, none⟩) (st.progs.length + 1) cap)) G' { st with progs := st.progs ++ [d] } ∧ Stp G w G' (w1.setCell ⟨C.wk, 5, none⟩ (.slice (some ⟨g, 0, none⟩) (st.progs.length + 1) cap)) ∧ ∀ k, k < W.heap.size → G k = 0 → (w1.setCell ⟨C.wk, 5, none⟩ (.slice (some ⟨g, 0, none⟩) (st.progs.length + 1) cap)).heap[k]? = W.heap[k]? ∧ G' k = 0) ∧
      (∀ k i, k < W.heap.size → G k = 0 → w1.cell? ⟨k, i, none⟩ = W.cell? ⟨k, i, none⟩) ∧ w1.frozen? ⟨C.wk, 5, none⟩ = false ∧ w1.cell? ⟨C.wk, 5, none⟩ = some pv := by
  have gw := hR.gw
  have hwk := (hR.own C.wk (by omega)).2
  have hall : ∀ k, k < W.heap.size → ((W.drewN m).alloc o).heap[k]? = W.heap[k]? := fun k hk => Below.heap_alloc (W.drewN m) o k hk
  have hR1 := (hR.drewN m).alloc o
  have hS1 := ((Stp.refl G W).drewN m).alloc o
  obtain ⟨G', h1, h2⟩ := hR1.push (pv := pv) (d := d) ((hall _ hwk).trans hrow) hpb (by rw [intL, List.map_append]; exact hown) hg hat
  have h3 := hS1.trans h2
  have e1 : w1.heap[C.wk]? = some (.cells (wkRow C st pv) 115 (0, 0)) := (hg.block C.wk (by simpa using Nat.lt_succ_of_lt hwk) (fun e' => by have := hpb _ e'.symm; omega)).trans ((hall _ hwk).trans hrow)
  refine ⟨G', Lib.hid ⟨h1, hS.trans h3, fun k hk h0 => ⟨h3.block k hk h0, (h3.own k hk).trans h0⟩⟩, fun k i hk h0 => ?_, frozen_of_row w1 C.wk 5 _ _ e1, by rw [cell_of_row w1 C.wk 5 _ _ _ e1]; rfl⟩
  exact World.cell?_of_block (a := ⟨k, i, none⟩) ((hg.block k (by simpa using Nat.lt_succ_of_lt hk) (fun e' => by have := hpb k e'.symm; omega)).trans (hall k hk))
theorem own_cap {w : World} {A : Option Addr} {n c : Nat} {xs : List Value} (h : w.ownsRow 0 3 1 (.slice A n c) n xs) : n ≤ c := by
  rcases h.2 with ⟨h1, h0⟩ | ⟨g, cap, cur, e, _, _, h5, _⟩
  · have : n = 0 := by have := h.1; rw [h0] at this; simp at this; omega
    omega
  · simp only [Value.slice.injEq] at e; omega
theorem prog_any {C : Ctx} (hw : Wf C.l) {f : Nat} {op ps : List Int} {b : Int} {j : Nat} (hnd : ∀ b', NodeDoes C f (op ++ [b] ++ [b']) (ps ++ [(j : Int)])) {w : World} {G : Nat → Nat} {st : St} (hj : j < C.l.length) (hjf : j ≤ f) (hk : (nd C.l j).kind = 20) (h : Rep C w G st) (hok : Ok C.l op b ps st) (hlen : op.length ≤ 8589934500) (hps : ps.length ≤ 8589934500) :
    Calls Try.prog 147 #[.pointer (some ⟨C.wk, 0, none⟩), .int .i64 j] w fun e w' => e = .returned (.tuple #[]) ∧ ∃ G', Rep C w' G' (progF C.l (nodeF C.l C.first f) st j) ∧ Stp G w G' w' := by
  obtain ⟨pv, hc, hf, hrow, hpro, hpb⟩ := h.cells
  obtain ⟨bb, o, hA, hn⟩ := h.nodesAt.node j hj
  have c0 : w.cell? ⟨C.wk, 0, none⟩ = some (.slice (some ⟨bb, o, none⟩) C.l.length C.lc) := hA ▸ hc 0
  obtain ⟨n1, n2, n3, n4, n5, n6, nz, n7⟩ := hn
  have hbig := big_le h.nodes.size
  have hj' : (j : Int) < C.l.length := by omega
  obtain ⟨PA, pc, rfl, hPA⟩ := row_slice hpro
  have HP := Lib.hid hpro
  have HB := Lib.hid hpb
  have HROW := Lib.hid hrow
  have hwk := (h.own C.wk (by rw [h.gw]; decide)).2
  have hbl : bb < w.heap.size := block_lt_of_cell n1
  have H := Lib.hid h
  have HOK := Lib.hid hok
  have HND := Lib.hid hnd
  have HK := Lib.hid hk
  clear h hok hnd hk hc hf hrow hpro hpb n6 nz n7 hA
  have hne1 : ¬ C.wk = w.heap.size := by omega
  have hne2 : ¬ C.wk = w.heap.size + 1 := by omega
  have hne3 : ¬ bb = w.heap.size := by omega
  have hne4 : ¬ bb = w.heap.size + 1 := by omega
  have hne5 : ¬ bb = w.heap.size + 1 + 1 := by omega
  have hne6 : ¬ C.wk = w.heap.size + 1 + 1 := by omega
  go_enter Try.func147, Try.ntmps147
  go_wp2_with fail
  go_region_held3 (fun w' => w'.cell? ⟨w.heap.size, 0, none⟩ = some (.pointer (some ⟨C.wk, 0, none⟩)) ∧ w'.cell? ⟨w.heap.size + 1, 0, none⟩ = some (.int .i64 j) ∧ w'.cell? ⟨C.wk, 0, none⟩ = some (.slice (some ⟨bb, o, none⟩) C.l.length C.lc) ∧ w'.cell? ⟨bb, o + j * 5, none⟩ = some (.int .i64 (nd C.l j).kind) ∧ w'.cell? ⟨bb, o + j * 5 + 1, none⟩ = some (.int .i64 (nd C.l j).at_) ∧ w'.cell? ⟨bb, o + j * 5 + 2, none⟩ = some (.slice (nd C.l j).kA (nd C.l j).kids.length (nd C.l j).kc) ∧ w'.cell? ⟨bb, o + j * 5 + 3, none⟩ = some (.string (nd C.l j).name) ∧ w'.cell? ⟨bb, o + j * 5 + 4, none⟩ = some (.int .i64 (nd C.l j).num)) (first | (refine ⟨?_, ?_, cell3 c0, cell3 n1, cell3 n2, cell3 n3, cell3 n4, cell3 n5⟩ <;> go_keep) | go_keep) (fail)
  go_wp2_with fail
  generalize hW : (((w.alloc (.cells #[.pointer (some ⟨C.wk, 0, none⟩)] 108)).alloc (.cells #[.int .i64 j] 3)).alloc (.cells #[.int .i64 (nd C.l j).kind, .int .i64 (nd C.l j).at_, .slice (nd C.l j).kA (nd C.l j).kids.length (nd C.l j).kc, .string (nd C.l j).name, .int .i64 (nd C.l j).num] 33)).drew = W
  have hRW : Rep C W G st := by rw [← hW]; exact (((H.out.alloc _).alloc _).alloc _).drew
  have hSW : Stp G w G W := by rw [← hW]; exact ((((Stp.refl G w).alloc _).alloc _).alloc _).drew
  have hsW : W.heap.size = w.heap.size + 3 := by rw [← hW]; simp
  have d2 : W.cell? ⟨w.heap.size, 0, none⟩ = some (.pointer (some ⟨C.wk, 0, none⟩)) := by rw [← hW, cell_of_row _ _ _ _ _ _ (blk3 w _ _ _).1]; rfl
  have d3 : W.cell? ⟨w.heap.size + 1, 0, none⟩ = some (.int .i64 j) := by rw [← hW, cell_of_row _ _ _ _ _ _ (blk3 w _ _ _).2.1]; rfl
  have d4 : W.cell? ⟨w.heap.size + 1 + 1, 2, none⟩ = some (.slice (nd C.l j).kA (nd C.l j).kids.length (nd C.l j).kc) := by rw [← hW, cell_of_row _ _ _ _ _ _ (blk3 w _ _ _).2.2]; rfl
  have d5 : W.cell? ⟨C.wk, 5, none⟩ = some (.slice PA st.progs.length pc) := by rw [← hW]; exact cell3 (by rw [cell_of_row w C.wk 5 _ _ _ HROW.out]; rfl)
  have g0 : ∀ k, w.heap.size ≤ k → G k = 0 := fun k hk => H.out.ne hk
  have hrW : W.heap[C.wk]? = some (.cells (wkRow C st (.slice PA st.progs.length pc)) 115 (0, 0)) := by
    rw [← hW]
    refine (Below.heap_alloc _ _ _ (by simp; omega)).trans ((Below.heap_alloc _ _ _ (by simp; omega)).trans ((Below.heap_alloc _ _ _ hwk).trans HROW.out))
  have HRW := Lib.hid hRW
  have HSW := Lib.hid hSW
  have HOW : Hid (W.ownsRow 0 3 1 (.slice PA st.progs.length pc) st.progs.length (intL st.progs)) := by
    obtain ⟨pvW, h1, h2, _⟩ := hRW.wkr
    rw [hrW] at h1
    have e : (wkRow C st (.slice PA st.progs.length pc))[5]? = (wkRow C st pvW)[5]? := by
      simp only [Option.some.injEq, Obj.cells.injEq] at h1
      rw [h1.1]
    have e' : pvW = .slice PA st.progs.length pc := by simpa [wkRow] using e.symm
    rw [← e']; exact h2
  have HrW := Lib.hid hrW
  have HG0 := Lib.hid g0
  have hpl : st.progs.length ≤ 8589934500 := by rw [HOK.out.prg]; exact hps
  obtain ⟨i0, hi0, hz0, hz1, hz2⟩ := info_parts info3
  rename_i hHeld _ _ 
  have HSZ := Lib.hid hsW
  have hwkW : C.wk < W.heap.size := by omega
  have d5a : ∀ o n, ((W.drewN n).alloc o).cell? ⟨C.wk, 5, none⟩ = some (.slice PA st.progs.length pc) := fun o n => (World.cell?_alloc_lt _ _ _ hwkW).trans d5
  clear hHeld hW hsW hRW hSW hrW g0 c0 n1 n2 n3 n4 n5 hne1 hne2 hne3 hne4 hne5 hne6 hPA
  refine wp_region_E (fun w' => w'.cell? ⟨w.heap.size, 0, none⟩ = some (.pointer (some ⟨C.wk, 0, none⟩)) ∧ w'.cell? ⟨w.heap.size + 1, 0, none⟩ = some (.int .i64 j) ∧ w'.cell? ⟨C.wk, 5, none⟩ = some (.slice PA st.progs.length pc)) 10 (by kernel_rfl) ⟨d2, d3, d5⟩ (fun hS0 => ?_)
  refine wpAnyE_take (i := 0) (oi := { dst := (some 12), op := (Op.load 108 (Operand.tmp 2)), type := 108, pos := "scope.go:147", after := #[], guard := none }) (v := ?vp0) rfl (by kernel_rfl) (fun _ _ _ h => h) ⟨by rfl, ?hp0⟩ hS0 ?rp0
  case hp0 => (intro w hSw; (try dsimp only at hSw); go_simp; try with_reducible rfl)
  try simp only [Act.put, List.setIfInBounds_toArray, List.set_cons_zero, List.set_cons_succ]
  refine wpAnyE_take (i := 1) (oi := { dst := (some 13), op := (Op.load 108 (Operand.tmp 2)), type := 108, pos := "scope.go:147", after := #[], guard := none }) (v := ?vp1) rfl (by kernel_rfl) (fun _ _ _ h => h) ⟨by rfl, ?hp1⟩ hS0 ?rp1
  case hp1 => (intro w hSw; (try dsimp only at hSw); go_simp; try with_reducible rfl)
  try simp only [Act.put, List.setIfInBounds_toArray, List.set_cons_zero, List.set_cons_succ]
  refine wpAnyE_take (i := 2) (oi := { dst := (some 14), op := (Op.nilCheck (Operand.tmp 13)), type := 0, pos := "scope.go:147", after := #[{ on := 1, ground := Ground.data }], guard := none }) (v := ?vp2) rfl (by kernel_rfl) (fun _ _ _ h => h) ⟨by rfl, ?hp2⟩ hS0 ?rp2
  case hp2 => (intro w hSw; (try dsimp only at hSw); go_simp; try with_reducible rfl)
  try simp only [Act.put, List.setIfInBounds_toArray, List.set_cons_zero, List.set_cons_succ]
  refine wpAnyE_take (i := 3) (oi := { dst := (some 15), op := (Op.fieldAddr 115 (Operand.tmp 14) 5), type := 0, pos := "scope.go:147", after := #[{ on := 2, ground := Ground.data }], guard := none }) (v := ?vp3) rfl (by kernel_rfl) (fun _ _ _ h => h) ⟨by rfl, ?hp3⟩ hS0 ?rp3
  case hp3 => (intro w hSw; (try dsimp only at hSw); go_simp; try with_reducible rfl)
  try simp only [Act.put, List.setIfInBounds_toArray, List.set_cons_zero, List.set_cons_succ]
  refine wpAnyE_take (i := 4) (oi := { dst := (some 16), op := (Op.load 24 (Operand.tmp 15)), type := 24, pos := "scope.go:147", after := #[{ on := 3, ground := Ground.data }], guard := none }) (v := ?vp4) rfl (by kernel_rfl) (fun _ _ _ h => h) ⟨by rfl, ?hp4⟩ hS0 ?rp4
  case hp4 => (intro w hSw; (try dsimp only at hSw); go_simp; try with_reducible rfl)
  try simp only [Act.put, List.setIfInBounds_toArray, List.set_cons_zero, List.set_cons_succ]
  refine wpAnyE_take (i := 5) (oi := { dst := (some 17), op := (Op.load 3 (Operand.tmp 3)), type := 3, pos := "scope.go:147", after := #[], guard := none }) (v := ?vp5) rfl (by kernel_rfl) (fun _ _ _ h => h) ⟨by rfl, ?hp5⟩ hS0 ?rp5
  case hp5 => (intro w hSw; (try dsimp only at hSw); go_simp; try with_reducible rfl)
  try simp only [Act.put, List.setIfInBounds_toArray, List.set_cons_zero, List.set_cons_succ]
  refine wpAnyE_one (i := 6) (o := { dst := (some 18), op := (Op.buildSlice 24 1 #[(0, (Operand.tmp 17))]), type := 24, pos := "scope.go:147", after := #[{ on := 5, ground := Ground.data }], guard := none }) (by kernel_rfl) rfl (fun K hK => ?_)
  go_simp
  have hS6 : (fun w' => w'.cell? ⟨w.heap.size, 0, none⟩ = some (.pointer (some ⟨C.wk, 0, none⟩)) ∧ w'.cell? ⟨w.heap.size + 1, 0, none⟩ = some (.int .i64 j) ∧ w'.cell? ⟨C.wk, 5, none⟩ = some (.slice PA st.progs.length pc)) (W.drew.alloc (.cells #[.int .i64 j] 3)) := ⟨(World.cell?_alloc_lt _ _ _ (by show w.heap.size < W.heap.size; have := HSZ.out; omega)).trans d2, (World.cell?_alloc_lt _ _ _ (by show w.heap.size + 1 < W.heap.size; have := HSZ.out; omega)).trans d3, (World.cell?_alloc_lt _ _ _ hwkW).trans d5⟩
  refine hK.out _ _ (Or.inr hS6) ?_
  clear hK K
  try simp only [Act.put, List.setIfInBounds_toArray, List.set_cons_zero, List.set_cons_succ]
  refine wpAnyE_one (i := 7) (o := { dst := (some 19), op := (Op.call { callee := (Callee.builtin Builtin.append), args := #[(Operand.tmp 16), (Operand.tmp 18)], argTypes := #[24, 24] }), type := 24, pos := "scope.go:147", after := #[{ on := 4, ground := Ground.data }, { on := 6, ground := Ground.data }], guard := none }) (by kernel_rfl) rfl (fun K hK => ?_)
  refine wanted_step rfl ?_
  refine wp_append_lies _ (.tmp 16) (.tmp 18) 24 rfl 0 3 i0 (.int .i64 0) 1 8 Try.underlying24 hi0 hz0 hz1 hz2 rfl (by decide) _ st.progs.length (intL st.progs) rfl (World.ownsRow.alloc (w := W.drewN 1) HOW.out _) ⟨W.heap.size, 0, none⟩ 1 1 [.int .i64 j] rfl rfl (World.news_of_block (cs := #[.int .i64 j]) (t := 3) (fr := (0, 0)) (heap_alloc_new _ _)) (by simp [Value.oneCell']) (by decide) (by unfold maxLen; omega) (by omega) (Nat.zero_le _) _ rfl ?_
  intro g cap w1 hown hg hat hlt
  obtain ⟨G2, HF, hf1, hf2, hf5⟩ := push_step HRW.out HSW.out HrW.out HB.out hown hg hat
  have q2 := (hf1 _ 0 (by have := HSZ.out; omega) (HG0.out _ (Nat.le_refl _))).trans d2
  have q3 := (hf1 _ 0 (by have := HSZ.out; omega) (HG0.out _ (Nat.le_succ _))).trans d3
  have hx1 : ¬ w.heap.size = C.wk := by omega
  have hx2 : ¬ w.heap.size + 1 = C.wk := by omega
  have hx3 : ¬ C.wk = w.heap.size := by omega
  have hx4 : ¬ C.wk = w.heap.size + 1 := by omega
  have hS7 : (fun w' => w'.cell? ⟨w.heap.size, 0, none⟩ = some (.pointer (some ⟨C.wk, 0, none⟩)) ∧ w'.cell? ⟨w.heap.size + 1, 0, none⟩ = some (.int .i64 j) ∧ w'.cell? ⟨C.wk, 5, none⟩ = some (.slice PA st.progs.length pc)) w1 := ⟨q2, q3, hf5⟩
  refine hK.out _ _ (Or.inr hS7) ?_
  clear hK K
  try simp only [Act.put, List.setIfInBounds_toArray, List.set_cons_zero, List.set_cons_succ]
  refine wpAnyE_one (i := 8) (o := { dst := (some 20), op := (Op.nilCheck (Operand.tmp 12)), type := 0, pos := "scope.go:147", after := #[{ on := 0, ground := Ground.data }, { on := 0, ground := Ground.phase }, { on := 1, ground := Ground.phase }, { on := 2, ground := Ground.phase }, { on := 3, ground := Ground.phase }, { on := 4, ground := Ground.phase }, { on := 5, ground := Ground.phase }, { on := 6, ground := Ground.phase }, { on := 7, ground := Ground.phase }], guard := none }) (by kernel_rfl) rfl (fun K hK => ?_)
  go_simp
  refine hK.out _ _ (Or.inr hS7) ?_
  clear hK K
  try simp only [Act.put, List.setIfInBounds_toArray, List.set_cons_zero, List.set_cons_succ]
  refine wpAnyE_one (i := 9) (o := { dst := (some 21), op := (Op.fieldAddr 115 (Operand.tmp 20) 5), type := 0, pos := "scope.go:147", after := #[{ on := 8, ground := Ground.data }, { on := 0, ground := Ground.phase }, { on := 1, ground := Ground.phase }, { on := 2, ground := Ground.phase }, { on := 3, ground := Ground.phase }, { on := 4, ground := Ground.phase }, { on := 5, ground := Ground.phase }, { on := 6, ground := Ground.phase }, { on := 7, ground := Ground.phase }], guard := none }) (by kernel_rfl) rfl (fun K hK => ?_)
  go_simp
  refine hK.out _ _ (Or.inr hS7) ?_
  clear hK K
  try simp only [Act.put, List.setIfInBounds_toArray, List.set_cons_zero, List.set_cons_succ]
  refine wpAnyE_one (i := 10) (o := { dst := none, op := (Op.store 24 (Operand.tmp 21) (Operand.tmp 19)), type := 0, pos := "scope.go:147", after := #[{ on := 9, ground := Ground.data }, { on := 7, ground := Ground.data }, { on := 7, ground := Ground.chain }, { on := 0, ground := Ground.phase }, { on := 1, ground := Ground.phase }, { on := 2, ground := Ground.phase }, { on := 3, ground := Ground.phase }, { on := 4, ground := Ground.phase }, { on := 5, ground := Ground.phase }, { on := 6, ground := Ground.phase }, { on := 7, ground := Ground.phase }], guard := none }) (by kernel_rfl) rfl (fun K hK => ?_)
  go_simp
  refine hK.out _ _ (Or.inl rfl) ?_
  clear hK K
  refine wpAnyE_done (by kernel_rfl) ?_
  all_goals
    clear q2 q3 hf5 hS0 hS6 hS7
    generalize hW1 : w1.setCell ⟨C.wk, 5, none⟩ (.slice (some ⟨g, 0, none⟩) (st.progs.length + 1) cap) = W1 at *
    have l0 : w.heap.size < W.heap.size := by have := HSZ.out; omega
    have l1 : w.heap.size + 1 < W.heap.size := by have := HSZ.out; omega
    have l2 : w.heap.size + 1 + 1 < W.heap.size := by have := HSZ.out; omega
    have k0 := HG0.out w.heap.size (Nat.le_refl _)
    have k1 := HG0.out (w.heap.size + 1) (by omega)
    have k2 := HG0.out (w.heap.size + 1 + 1) (by omega)
    have e2 : W1.cell? ⟨w.heap.size, 0, none⟩ = some (.pointer (some ⟨C.wk, 0, none⟩)) := (World.cell?_of_block (HF.out.2.2 _ l0 k0).1).trans d2
    have e3 : W1.cell? ⟨w.heap.size + 1, 0, none⟩ = some (.int .i64 j) := (World.cell?_of_block (HF.out.2.2 _ l1 k1).1).trans d3
    have e4 : W1.cell? ⟨w.heap.size + 1 + 1, 2, none⟩ = some (.slice (nd C.l j).kA (nd C.l j).kids.length (nd C.l j).kc) := (World.cell?_of_block (HF.out.2.2 _ l2 k2).1).trans d4
    have m0 := block_lt_of_cell e2
    have m1 := block_lt_of_cell e3
    have m2 := block_lt_of_cell e4
    have j0 := (HF.out.2.2 _ l0 k0).2
    have j1 := (HF.out.2.2 _ l1 k1).2
    have j2 := (HF.out.2.2 _ l2 k2).2
    have hok1 : Ok C.l op b (ps ++ [(j : Int)]) { st with progs := st.progs ++ [(j : Int)] } := ⟨HOK.out.good.push hj, HOK.out.blk, by show st.progs ++ _ = _; rw [HOK.out.prg]⟩
    have HF2 := Lib.hid HF.out.2.1
    have HF1 := Lib.hid HF.out.1
    have HO1 := Lib.hid hok1
    have E4 := Lib.hid e4
    have E3 := Lib.hid e3
    clear d2 d3 d4 d5 d5a hf1 hW1 HF k0 k1 k2 l0 l1 l2 hok1 e3 e4 hf2 hwkW
    have hEn : Ok C.l (op ++ [b]) (enterF { st with progs := st.progs ++ [(j : Int)] }).block (ps ++ [(j : Int)]) (enterF { st with progs := st.progs ++ [(j : Int)] }) := ⟨HO1.out.good.enter, rfl, HO1.out.prg⟩
    have HEN := Lib.hid hEn
    have hB1 : Ok C.l (op ++ [b]) (enterF { st with progs := st.progs ++ [(j : Int)] }).block (ps ++ [(j : Int)]) (withinF (bodyF C.l (nodeF C.l C.first f) j) (declareF C.l (enterF { st with progs := st.progs ++ [(j : Int)] }) j)) :=
      (HEN.out.declare hj).within (fun b'' s' hs' _ => body_ok hw C.first f hj HK.out hs')
    have HB1 := Lib.hid hB1
    have HW := Lib.hid (within_any HF1.out 194 #[.pointer (some ⟨w.heap.size, 0, none⟩), .pointer (some ⟨w.heap.size + 1, 0, none⟩), .pointer (some ⟨w.heap.size + 1 + 1, 0, none⟩)] (fun w => by rfl) (st2 := withinF (bodyF C.l (nodeF C.l C.first f) j) (declareF C.l (enterF { st with progs := st.progs ++ [(j : Int)] }) j))
      (fun w2 hR2 hS2 => prog1_any hw (HND.out _) hj hjf HK.out hR2 HEN.out (by simp; omega) w.heap.size (w.heap.size + 1) (w.heap.size + 1 + 1) ⟨Nat.lt_of_lt_of_le m0 hS2.size, j0⟩ ⟨Nat.lt_of_lt_of_le m1 hS2.size, j1⟩ ⟨Nat.lt_of_lt_of_le m2 hS2.size, j2⟩
        ((hS2.cell m0 j0).trans e2) ((hS2.cell m1 j1).trans E3.out) ((hS2.cell m2 j2).trans E4.out))
      (fun s => by have := HB1.out.good.len s; simp at this; omega))
    clear hEn hB1
    go_wp2_with fail
    refine HW.out.mono ?_
    rintro e w3 ⟨rfl, G3, hR3, hS3⟩
    have f2 : w3.cell? ⟨w.heap.size, 0, none⟩ = some (.pointer (some ⟨C.wk, 0, none⟩)) := (hS3.cell m0 j0).trans e2
    obtain ⟨pv3, hc3, hf3, hrow3, hpro3, hpb3⟩ := hR3.cells
    have hp3 : (leaveF (withinF (bodyF C.l (nodeF C.l C.first f) j) (declareF C.l (enterF { st with progs := st.progs ++ [(j : Int)] }) j)) ({ st with progs := st.progs ++ [(j : Int)] } : St).block).progs = ps ++ [(j : Int)] := HB1.out.prg
    have hl3 : (leaveF (withinF (bodyF C.l (nodeF C.l C.first f) j) (declareF C.l (enterF { st with progs := st.progs ++ [(j : Int)] }) j)) ({ st with progs := st.progs ++ [(j : Int)] } : St).block).progs.length = ps.length + 1 := by rw [hp3]; simp
    obtain ⟨A3, c3, rfl, -⟩ := row_slice hpro3
    have hcap : ps.length + 1 ≤ c3 := hl3 ▸ own_cap hpro3
    rw [hl3] at hrow3 hpb3
    have x5 : w3.cell? ⟨C.wk, 5, none⟩ = some (.slice A3 (ps.length + 1) c3) := by rw [← hl3]; exact hc3 5
    have y5 := hf3 5
    have hq : w3.ownsRow 0 3 1 (.slice A3 (ps.length + 1) c3) (leaveF (withinF (bodyF C.l (nodeF C.l C.first f) j) (declareF C.l (enterF { st with progs := st.progs ++ [(j : Int)] }) j)) ({ st with progs := st.progs ++ [(j : Int)] } : St).block).progs.length (intL (leaveF (withinF (bodyF C.l (nodeF C.l C.first f) j) (declareF C.l (enterF { st with progs := st.progs ++ [(j : Int)] }) j)) ({ st with progs := st.progs ++ [(j : Int)] } : St).block).progs) := by
      have h9 := hpro3
      rw [show (Value.slice A3 (leaveF (withinF (bodyF C.l (nodeF C.l C.first f) j) (declareF C.l (enterF { st with progs := st.progs ++ [(j : Int)] }) j)) ({ st with progs := st.progs ++ [(j : Int)] } : St).block).progs.length c3) = .slice A3 (ps.length + 1) c3 from by rw [hl3]] at h9
      exact h9
    have HCUT := Lib.hid ((hR3.drew).cut (n := ps.length) hrow3 hl3 hq hpb3)
    have HS3 := Lib.hid hS3
    have hz0' : (0 : Int) ≤ (ps.length : Int) := by omega
    have hzc : (ps.length : Int) ≤ (c3 : Int) := by omega
    have hwr : IntKind.i64.wrap (ps.length : Int) = (ps.length : Int) := IntWalk.i64_in _ (by omega)
    clear hR3 hS3 hc3 hf3 hrow3 hpro3 hpb3 hp3 hl3 hq e2 HW
    go_wp2_with fail
    go_still_tail 12, (by kernel_rfl)
    clear hwr
    go_wp2_with fail
    go_end0
    exact ⟨rfl, G3, HCUT.out.1, (HF2.out.trans HS3.out.drew).trans HCUT.out.2⟩
end Go.Proofs.Ytmaepljmefdhkaa
