/- Further laws: append at a step of a region that draws its order. -/
import Derived.Test.YtkknklagoghljaaGreatDoorBase
namespace Go.Proofs.YtkknklagoghljaaGreatDoor
open Go.RowKit
section
variable {P : Program} (w : World)
theorem step_append1 {ops : Array Oper} {o : Oper} {a : Act} {K : Act → World → Prop} {Q : Exit → Act → World → Prop} {E : Prop} (hgd : o.guard = none) (s x : Operand) (t : TypeId)
    (ho : o.op = .call { callee := .builtin .append, args := #[s, x], argTypes := #[t, t] })
    (B : Nat) (e : TypeId) (i : TypeInfo) (z : Value) (k bytes : Nat) (ht : P.underlying t = some (.slice e)) (hi : P.info? e = some i) (hz : i.zero = some z)
    (hsize : i.size = k) (hby : i.bytes = bytes) (hzs : z.cells.size = k) (hsz : 0 < k)
    (v : Value) (n : Nat) (cs : List Value) (hs : a.eval s = v) (W : World) (hown : Owned W B e k v n cs)
    (cur : Array Value) (e' : TypeId) (hw : w = W.alloc (.cells cur e')) (g : Nat) (hg : W.heap.size = g) (hx : a.eval x = .slice (some ⟨g, 0, none⟩) 1 1) (hcur : cur.size = k) (h1 : ∀ u ∈ cur.toList, u.oneCell' = true)
    (h63 : n < 9007199254740992) (hbytes : (n + 1) * bytes ≤ 140737488355328) (hbase : B ≤ g)
    (h : ∀ ad' cap' w', Owned w' B e k (.slice ad' (n + 1) cap') (n + 1) (cs ++ cur.toList) → W.grownBy w' (myBlock v) → (myBlock (.slice ad' (n + 1) cap') = myBlock v ∨ ∃ g', myBlock (.slice ad' (n + 1) cap') = some g' ∧ g ≤ g') → K (a.put o.dst (.slice ad' (n + 1) cap')) w') :
    if Region.wanted o (yielded ops a.tmps) = true then Oper.wp P o a w K Q else E := by
  have hwant : Region.wanted o (yielded ops a.tmps) = true := by simp [Region.wanted, hgd]
  rw [if_pos hwant]
  subst hw; subst hg
  obtain ⟨v', w', hr, h2, h3, h4, _⟩ := run_append_owned (P := P) (W.alloc (.cells cur e')) B t o.type e i z k bytes ht hi hz hsize hby hzs hsz v n cs (hown.alloc _) ⟨W.heap.size, 0, none⟩ 1 1 cur.toList (by simp [hcur])
    (by
      intro j u hu
      rw [Addr_add_lit, Nat.zero_add, World.cell?_alloc_new]
      simpa using hu) h1 (by simp only [maxLen]; omega) hbytes (by simp; omega)
  obtain ⟨ad', cap', rfl⟩ := h2.form
  unfold Oper.wp execOp
  simp only [ho, resolve, invoke, builtin, Sem.run_bind, Sem.run_pure, Result.andThen_ok, List.map_toArray, List.map_cons, List.map_nil, hs, hx, hr]
  refine h ad' cap' w' h2 (grownBy_trans (World.grownBy_alloc W _ _) h3) ?_
  rcases h4 with h4 | ⟨g', h4, hle⟩
  · exact .inl h4
  · exact .inr ⟨g', h4, by simp at hle; omega⟩
/-- append, and what the older header reads still. -/
theorem wpList_appendK {ops : Array Oper} {rest : List Oper} {o : Oper} {a : Act} {Q : Exit → Act → World → Prop} (hgd : o.guard = none) (s x : Operand) (t : TypeId)
    (ho : o.op = .call { callee := .builtin .append, args := #[s, x], argTypes := #[t, t] })
    (B : Nat) (e : TypeId) (i : TypeInfo) (z : Value) (k bytes : Nat) (ht : P.underlying t = some (.slice e)) (hi : P.info? e = some i) (hz : i.zero = some z)
    (hsize : i.size = k) (hby : i.bytes = bytes) (hzs : z.cells.size = k) (hsz : 0 < k)
    (v : Value) (n : Nat) (cs : List Value) (hs : a.eval s = v) (hown : Owned w B e k v n cs)
    (vx : Value) (m : Nat) (news : List Value) (hx : a.eval x = vx) (hr : Reads w vx m k news) (h1 : ∀ u ∈ news, u.oneCell' = true)
    (h63 : n + m ≤ maxLen) (hbytes : (n + m) * bytes ≤ 140737488355328) (hbase : B ≤ w.heap.size)
    (h : ∀ v' w', Owned w' B e k v' (n + m) (cs ++ news) → w.grownBy w' (myBlock v) → (myBlock v' = myBlock v ∨ ∃ g, myBlock v' = some g ∧ w.heap.size ≤ g) → Reads w' v n k cs → wpList P ops Q rest (a.put o.dst v') w') : wpList P ops Q (o :: rest) a w := by
  have hrd0 := hown.reads
  obtain ⟨hl, ad, c, rfl, hc⟩ := hr
  obtain ⟨v', w', hrun, ho', hg', hb', hrd⟩ : ∃ v' w', (Builtin.append_ #[t, t] o.type #[v, .slice ad m c]).run P w = .ok v' w' ∧ Owned w' B e k v' (n + m) (cs ++ news) ∧ w.grownBy w' (myBlock v) ∧
      (myBlock v' = myBlock v ∨ ∃ g, myBlock v' = some g ∧ w.heap.size ≤ g) ∧ Reads w' v n k cs := by
    cases ad with
    | none =>
      have hm : m = 0 := by
        rcases Nat.eq_zero_or_pos m with h0 | h0
        · exact h0
        · obtain ⟨b, o, hx, _⟩ := hc h0; cases hx
      subst hm
      have hn : news = [] := List.eq_nil_of_length_eq_zero (by simpa using hl)
      subst hn
      exact ⟨v, w, run_append_none (P := P) w B t o.type e i k ht hi hsize v n cs hown 0 c rfl, by simpa using hown, ⟨rfl, rfl, rfl, Nat.le_refl _, fun _ _ _ => rfl⟩, .inl rfl, hrd0⟩
    | some a0 =>
      have hcell : ∀ j u, news[j]? = some u → w.cell? (a0.add j) = some u := by
        intro j u hj
        rcases Nat.eq_zero_or_pos m with h0 | h0
        · subst h0
          have hn : news = [] := List.eq_nil_of_length_eq_zero (by simpa using hl)
          subst hn; simp at hj
        · obtain ⟨b, oo, hx, hcl⟩ := hc h0
          cases hx
          rw [Addr_add_lit]; exact hcl j u hj
      obtain ⟨v', w', h1', h2, h3, h4, _, h6⟩ := run_append_owned (P := P) w B t o.type e i z k bytes ht hi hz hsize hby hzs hsz v n cs hown a0 m c news hl hcell h1 h63 hbytes hbase
      exact ⟨v', w', h1', h2, h3, h4, h6⟩
  refine wpList_plain hgd fun K hK => ?_
  unfold Oper.wp execOp
  simp only [ho, resolve, invoke, builtin, Sem.run_bind, Sem.run_pure, Result.andThen_ok, List.map_toArray, List.map_cons, List.map_nil, hs, hx, hrun]
  exact hK _ _ (h v' w' ho' hg' hb' hrd)
/-- append of several, at a step of a region that draws its order. -/
theorem step_appendR {ops : Array Oper} {o : Oper} {a : Act} {K : Act → World → Prop} {Q : Exit → Act → World → Prop} {E : Prop} (hgd : o.guard = none) (s x : Operand) (t : TypeId)
    (ho : o.op = .call { callee := .builtin .append, args := #[s, x], argTypes := #[t, t] })
    (B : Nat) (e : TypeId) (i : TypeInfo) (z : Value) (k bytes : Nat) (ht : P.underlying t = some (.slice e)) (hi : P.info? e = some i) (hz : i.zero = some z)
    (hsize : i.size = k) (hby : i.bytes = bytes) (hzs : z.cells.size = k) (hsz : 0 < k)
    (v : Value) (n : Nat) (cs : List Value) (hs : a.eval s = v) (hown : Owned w B e k v n cs)
    (vx : Value) (m : Nat) (news : List Value) (hx : a.eval x = vx) (hr : Reads w vx m k news) (h1 : ∀ u ∈ news, u.oneCell' = true)
    (h63 : n + m ≤ maxLen) (hbytes : (n + m) * bytes ≤ 140737488355328) (hbase : B ≤ w.heap.size)
    (h : ∀ ad' cap' w', Owned w' B e k (.slice ad' (n + m) cap') (n + m) (cs ++ news) → w.grownBy w' (myBlock v) → (myBlock (.slice ad' (n + m) cap') = myBlock v ∨ ∃ g, myBlock (.slice ad' (n + m) cap') = some g ∧ w.heap.size ≤ g) → Reads w' v n k cs → K (a.put o.dst (.slice ad' (n + m) cap')) w') :
    if Region.wanted o (yielded ops a.tmps) = true then Oper.wp P o a w K Q else E := by
  have hwant : Region.wanted o (yielded ops a.tmps) = true := by simp [Region.wanted, hgd]
  rw [if_pos hwant]
  have hrd0 := hown.reads
  obtain ⟨hl, ad, c, rfl, hc⟩ := hr
  obtain ⟨v', w', hrun, ho', hg', hb', hrd⟩ : ∃ v' w', (Builtin.append_ #[t, t] o.type #[v, .slice ad m c]).run P w = .ok v' w' ∧ Owned w' B e k v' (n + m) (cs ++ news) ∧ w.grownBy w' (myBlock v) ∧
      (myBlock v' = myBlock v ∨ ∃ g, myBlock v' = some g ∧ w.heap.size ≤ g) ∧ Reads w' v n k cs := by
    cases ad with
    | none =>
      have hm : m = 0 := by
        rcases Nat.eq_zero_or_pos m with h0 | h0
        · exact h0
        · obtain ⟨b, o, hx, _⟩ := hc h0; cases hx
      subst hm
      have hn : news = [] := List.eq_nil_of_length_eq_zero (by simpa using hl)
      subst hn
      exact ⟨v, w, run_append_none (P := P) w B t o.type e i k ht hi hsize v n cs hown 0 c rfl, by simpa using hown, ⟨rfl, rfl, rfl, Nat.le_refl _, fun _ _ _ => rfl⟩, .inl rfl, hrd0⟩
    | some a0 =>
      have hcell : ∀ j u, news[j]? = some u → w.cell? (a0.add j) = some u := by
        intro j u hj
        rcases Nat.eq_zero_or_pos m with h0 | h0
        · subst h0
          have hn : news = [] := List.eq_nil_of_length_eq_zero (by simpa using hl)
          subst hn; simp at hj
        · obtain ⟨b, oo, hx, hcl⟩ := hc h0
          cases hx
          rw [Addr_add_lit]; exact hcl j u hj
      obtain ⟨v', w', h1', h2, h3, h4, _, h6⟩ := run_append_owned (P := P) w B t o.type e i z k bytes ht hi hz hsize hby hzs hsz v n cs hown a0 m c news hl hcell h1 h63 hbytes hbase
      exact ⟨v', w', h1', h2, h3, h4, h6⟩
  obtain ⟨ad', cap', rfl⟩ := ho'.form
  unfold Oper.wp execOp
  simp only [ho, resolve, invoke, builtin, Sem.run_bind, Sem.run_pure, Result.andThen_ok, List.map_toArray, List.map_cons, List.map_nil, hs, hx, hrun]
  exact h ad' cap' w' ho' hg' hb' hrd
end
/-- append of one element just laid in a block of its own, at a step of a region that draws its order, at []int. -/
theorem sapp49 {P : Program} (hP : P = Tryz.prog) {w : World} {ops : Array Oper} {o : Oper} {a : Act} {K : Act → World → Prop} {Q : Exit → Act → World → Prop} {E : Prop} (hgd : o.guard = none) (s x : Operand)
    (ho : o.op = .call { callee := .builtin .append, args := #[s, x], argTypes := #[49, 49] })
    (B : Nat) (v : Value) (n : Nat) (cs : List Value) (hs : a.eval s = v) (W : World) (hown : Owned W B 3 1 v n cs)
    (cur : Array Value) (e' : TypeId) (hw : w = W.alloc (.cells cur e')) (g : Nat) (hg : W.heap.size = g) (hx : a.eval x = .slice (some ⟨g, 0, none⟩) 1 1) (hcur : cur.size = 1) (h1 : ∀ u ∈ cur.toList, u.oneCell' = true)
    (h63 : n < 1099511627776) (hbase : B ≤ g)
    (h : ∀ ad' cap' w', Owned w' B 3 1 (.slice ad' (n + 1) cap') (n + 1) (cs ++ cur.toList) → W.grownBy w' (myBlock v) → (myBlock (.slice ad' (n + 1) cap') = myBlock v ∨ ∃ g', myBlock (.slice ad' (n + 1) cap') = some g' ∧ g ≤ g') → K (a.put o.dst (.slice ad' (n + 1) cap')) w') :
    if Region.wanted o (yielded ops a.tmps) = true then Oper.wp P o a w K Q else E := by
  subst hP
  obtain ⟨i0, hi, hz0, hz1, hz2⟩ := info_parts info3
  exact step_append1 w hgd s x 49 ho B 3 i0 ((.int .i64 0)) 1 8 Tryz.underlying49 hi hz0 hz1 hz2 rfl (by decide) v n cs hs W hown cur e' hw g hg hx hcur h1 (by omega) (by omega) hbase h
/-- append of several elements; what the older header reads still; at []int. -/
theorem appk49 {P : Program} (hP : P = Tryz.prog) {w : World} {ops : Array Oper} {rest : List Oper} {o : Oper} {a : Act} {Q : Exit → Act → World → Prop} (hgd : o.guard = none) (s x : Operand)
    (ho : o.op = .call { callee := .builtin .append, args := #[s, x], argTypes := #[49, 49] })
    (B : Nat) (v : Value) (n : Nat) (cs : List Value) (hs : a.eval s = v) (hown : Owned w B 3 1 v n cs)
    (vx : Value) (m : Nat) (news : List Value) (hx : a.eval x = vx) (hr : Reads w vx m 1 news) (h1 : ∀ u ∈ news, u.oneCell' = true)
    (h63 : n + m < 1099511627776) (hbase : B ≤ w.heap.size)
    (h : ∀ v' w', Owned w' B 3 1 v' (n + m) (cs ++ news) → w.grownBy w' (myBlock v) → (myBlock v' = myBlock v ∨ ∃ g', myBlock v' = some g' ∧ w.heap.size ≤ g') → Reads w' v n 1 cs → wpList P ops Q rest (a.put o.dst v') w') : wpList P ops Q (o :: rest) a w := by
  subst hP
  obtain ⟨i0, hi, hz0, hz1, hz2⟩ := info_parts info3
  exact wpList_appendK w hgd s x 49 ho B 3 i0 ((.int .i64 0)) 1 8 Tryz.underlying49 hi hz0 hz1 hz2 rfl (by decide) v n cs hs hown vx m news hx hr h1 (by simp only [maxLen]; omega) (by omega) hbase h
/-- append of several elements, at a step of a region that draws its order, at []int. -/
theorem sappn49 {P : Program} (hP : P = Tryz.prog) {w : World} {ops : Array Oper} {o : Oper} {a : Act} {K : Act → World → Prop} {Q : Exit → Act → World → Prop} {E : Prop} (hgd : o.guard = none) (s x : Operand)
    (ho : o.op = .call { callee := .builtin .append, args := #[s, x], argTypes := #[49, 49] })
    (B : Nat) (v : Value) (n : Nat) (cs : List Value) (hs : a.eval s = v) (hown : Owned w B 3 1 v n cs)
    (vx : Value) (m : Nat) (news : List Value) (hx : a.eval x = vx) (hr : Reads w vx m 1 news) (h1 : ∀ u ∈ news, u.oneCell' = true)
    (h63 : n + m < 1099511627776) (hbase : B ≤ w.heap.size)
    (h : ∀ ad' cap' w', Owned w' B 3 1 (.slice ad' (n + m) cap') (n + m) (cs ++ news) → w.grownBy w' (myBlock v) → (myBlock (.slice ad' (n + m) cap') = myBlock v ∨ ∃ g', myBlock (.slice ad' (n + m) cap') = some g' ∧ w.heap.size ≤ g') → Reads w' v n 1 cs → K (a.put o.dst (.slice ad' (n + m) cap')) w') :
    if Region.wanted o (yielded ops a.tmps) = true then Oper.wp P o a w K Q else E := by
  subst hP
  obtain ⟨i0, hi, hz0, hz1, hz2⟩ := info_parts info3
  exact step_appendR w hgd s x 49 ho B 3 i0 ((.int .i64 0)) 1 8 Tryz.underlying49 hi hz0 hz1 hz2 rfl (by decide) v n cs hs hown vx m news hx hr h1 (by simp only [maxLen]; omega) (by omega) hbase h

/-- append of one element just laid in a block of its own, at a step of a region that draws its order, at []bool. -/
theorem sapp73 {P : Program} (hP : P = Tryz.prog) {w : World} {ops : Array Oper} {o : Oper} {a : Act} {K : Act → World → Prop} {Q : Exit → Act → World → Prop} {E : Prop} (hgd : o.guard = none) (s x : Operand)
    (ho : o.op = .call { callee := .builtin .append, args := #[s, x], argTypes := #[73, 73] })
    (B : Nat) (v : Value) (n : Nat) (cs : List Value) (hs : a.eval s = v) (W : World) (hown : Owned W B 4 1 v n cs)
    (cur : Array Value) (e' : TypeId) (hw : w = W.alloc (.cells cur e')) (g : Nat) (hg : W.heap.size = g) (hx : a.eval x = .slice (some ⟨g, 0, none⟩) 1 1) (hcur : cur.size = 1) (h1 : ∀ u ∈ cur.toList, u.oneCell' = true)
    (h63 : n < 1099511627776) (hbase : B ≤ g)
    (h : ∀ ad' cap' w', Owned w' B 4 1 (.slice ad' (n + 1) cap') (n + 1) (cs ++ cur.toList) → W.grownBy w' (myBlock v) → (myBlock (.slice ad' (n + 1) cap') = myBlock v ∨ ∃ g', myBlock (.slice ad' (n + 1) cap') = some g' ∧ g ≤ g') → K (a.put o.dst (.slice ad' (n + 1) cap')) w') :
    if Region.wanted o (yielded ops a.tmps) = true then Oper.wp P o a w K Q else E := by
  subst hP
  obtain ⟨i0, hi, hz0, hz1, hz2⟩ := info_parts info4
  exact step_append1 w hgd s x 73 ho B 4 i0 ((.bool false)) 1 1 Tryz.underlying73 hi hz0 hz1 hz2 rfl (by decide) v n cs hs W hown cur e' hw g hg hx hcur h1 (by omega) (by omega) hbase h
/-- append of several elements; what the older header reads still; at []bool. -/
theorem appk73 {P : Program} (hP : P = Tryz.prog) {w : World} {ops : Array Oper} {rest : List Oper} {o : Oper} {a : Act} {Q : Exit → Act → World → Prop} (hgd : o.guard = none) (s x : Operand)
    (ho : o.op = .call { callee := .builtin .append, args := #[s, x], argTypes := #[73, 73] })
    (B : Nat) (v : Value) (n : Nat) (cs : List Value) (hs : a.eval s = v) (hown : Owned w B 4 1 v n cs)
    (vx : Value) (m : Nat) (news : List Value) (hx : a.eval x = vx) (hr : Reads w vx m 1 news) (h1 : ∀ u ∈ news, u.oneCell' = true)
    (h63 : n + m < 1099511627776) (hbase : B ≤ w.heap.size)
    (h : ∀ v' w', Owned w' B 4 1 v' (n + m) (cs ++ news) → w.grownBy w' (myBlock v) → (myBlock v' = myBlock v ∨ ∃ g', myBlock v' = some g' ∧ w.heap.size ≤ g') → Reads w' v n 1 cs → wpList P ops Q rest (a.put o.dst v') w') : wpList P ops Q (o :: rest) a w := by
  subst hP
  obtain ⟨i0, hi, hz0, hz1, hz2⟩ := info_parts info4
  exact wpList_appendK w hgd s x 73 ho B 4 i0 ((.bool false)) 1 1 Tryz.underlying73 hi hz0 hz1 hz2 rfl (by decide) v n cs hs hown vx m news hx hr h1 (by simp only [maxLen]; omega) (by omega) hbase h
/-- append of several elements, at a step of a region that draws its order, at []bool. -/
theorem sappn73 {P : Program} (hP : P = Tryz.prog) {w : World} {ops : Array Oper} {o : Oper} {a : Act} {K : Act → World → Prop} {Q : Exit → Act → World → Prop} {E : Prop} (hgd : o.guard = none) (s x : Operand)
    (ho : o.op = .call { callee := .builtin .append, args := #[s, x], argTypes := #[73, 73] })
    (B : Nat) (v : Value) (n : Nat) (cs : List Value) (hs : a.eval s = v) (hown : Owned w B 4 1 v n cs)
    (vx : Value) (m : Nat) (news : List Value) (hx : a.eval x = vx) (hr : Reads w vx m 1 news) (h1 : ∀ u ∈ news, u.oneCell' = true)
    (h63 : n + m < 1099511627776) (hbase : B ≤ w.heap.size)
    (h : ∀ ad' cap' w', Owned w' B 4 1 (.slice ad' (n + m) cap') (n + m) (cs ++ news) → w.grownBy w' (myBlock v) → (myBlock (.slice ad' (n + m) cap') = myBlock v ∨ ∃ g', myBlock (.slice ad' (n + m) cap') = some g' ∧ w.heap.size ≤ g') → Reads w' v n 1 cs → K (a.put o.dst (.slice ad' (n + m) cap')) w') :
    if Region.wanted o (yielded ops a.tmps) = true then Oper.wp P o a w K Q else E := by
  subst hP
  obtain ⟨i0, hi, hz0, hz1, hz2⟩ := info_parts info4
  exact step_appendR w hgd s x 73 ho B 4 i0 ((.bool false)) 1 1 Tryz.underlying73 hi hz0 hz1 hz2 rfl (by decide) v n cs hs hown vx m news hx hr h1 (by simp only [maxLen]; omega) (by omega) hbase h

/-- append of one element just laid in a block of its own, at a step of a region that draws its order, at []api.Step. -/
theorem sapp46 {P : Program} (hP : P = Tryz.prog) {w : World} {ops : Array Oper} {o : Oper} {a : Act} {K : Act → World → Prop} {Q : Exit → Act → World → Prop} {E : Prop} (hgd : o.guard = none) (s x : Operand)
    (ho : o.op = .call { callee := .builtin .append, args := #[s, x], argTypes := #[46, 46] })
    (B : Nat) (v : Value) (n : Nat) (cs : List Value) (hs : a.eval s = v) (W : World) (hown : Owned W B 85 2 v n cs)
    (cur : Array Value) (e' : TypeId) (hw : w = W.alloc (.cells cur e')) (g : Nat) (hg : W.heap.size = g) (hx : a.eval x = .slice (some ⟨g, 0, none⟩) 1 1) (hcur : cur.size = 2) (h1 : ∀ u ∈ cur.toList, u.oneCell' = true)
    (h63 : n < 1099511627776) (hbase : B ≤ g)
    (h : ∀ ad' cap' w', Owned w' B 85 2 (.slice ad' (n + 1) cap') (n + 1) (cs ++ cur.toList) → W.grownBy w' (myBlock v) → (myBlock (.slice ad' (n + 1) cap') = myBlock v ∨ ∃ g', myBlock (.slice ad' (n + 1) cap') = some g' ∧ g ≤ g') → K (a.put o.dst (.slice ad' (n + 1) cap')) w') :
    if Region.wanted o (yielded ops a.tmps) = true then Oper.wp P o a w K Q else E := by
  subst hP
  obtain ⟨i0, hi, hz0, hz1, hz2⟩ := info_parts info85
  exact step_append1 w hgd s x 46 ho B 85 i0 ((.agg #[.int .i64 0, .int .i64 0])) 2 16 Tryz.underlying46 hi hz0 hz1 hz2 rfl (by decide) v n cs hs W hown cur e' hw g hg hx hcur h1 (by omega) (by omega) hbase h
/-- append of several elements; what the older header reads still; at []api.Step. -/
theorem appk46 {P : Program} (hP : P = Tryz.prog) {w : World} {ops : Array Oper} {rest : List Oper} {o : Oper} {a : Act} {Q : Exit → Act → World → Prop} (hgd : o.guard = none) (s x : Operand)
    (ho : o.op = .call { callee := .builtin .append, args := #[s, x], argTypes := #[46, 46] })
    (B : Nat) (v : Value) (n : Nat) (cs : List Value) (hs : a.eval s = v) (hown : Owned w B 85 2 v n cs)
    (vx : Value) (m : Nat) (news : List Value) (hx : a.eval x = vx) (hr : Reads w vx m 2 news) (h1 : ∀ u ∈ news, u.oneCell' = true)
    (h63 : n + m < 1099511627776) (hbase : B ≤ w.heap.size)
    (h : ∀ v' w', Owned w' B 85 2 v' (n + m) (cs ++ news) → w.grownBy w' (myBlock v) → (myBlock v' = myBlock v ∨ ∃ g', myBlock v' = some g' ∧ w.heap.size ≤ g') → Reads w' v n 2 cs → wpList P ops Q rest (a.put o.dst v') w') : wpList P ops Q (o :: rest) a w := by
  subst hP
  obtain ⟨i0, hi, hz0, hz1, hz2⟩ := info_parts info85
  exact wpList_appendK w hgd s x 46 ho B 85 i0 ((.agg #[.int .i64 0, .int .i64 0])) 2 16 Tryz.underlying46 hi hz0 hz1 hz2 rfl (by decide) v n cs hs hown vx m news hx hr h1 (by simp only [maxLen]; omega) (by omega) hbase h
/-- append of several elements, at a step of a region that draws its order, at []api.Step. -/
theorem sappn46 {P : Program} (hP : P = Tryz.prog) {w : World} {ops : Array Oper} {o : Oper} {a : Act} {K : Act → World → Prop} {Q : Exit → Act → World → Prop} {E : Prop} (hgd : o.guard = none) (s x : Operand)
    (ho : o.op = .call { callee := .builtin .append, args := #[s, x], argTypes := #[46, 46] })
    (B : Nat) (v : Value) (n : Nat) (cs : List Value) (hs : a.eval s = v) (hown : Owned w B 85 2 v n cs)
    (vx : Value) (m : Nat) (news : List Value) (hx : a.eval x = vx) (hr : Reads w vx m 2 news) (h1 : ∀ u ∈ news, u.oneCell' = true)
    (h63 : n + m < 1099511627776) (hbase : B ≤ w.heap.size)
    (h : ∀ ad' cap' w', Owned w' B 85 2 (.slice ad' (n + m) cap') (n + m) (cs ++ news) → w.grownBy w' (myBlock v) → (myBlock (.slice ad' (n + m) cap') = myBlock v ∨ ∃ g', myBlock (.slice ad' (n + m) cap') = some g' ∧ w.heap.size ≤ g') → Reads w' v n 2 cs → K (a.put o.dst (.slice ad' (n + m) cap')) w') :
    if Region.wanted o (yielded ops a.tmps) = true then Oper.wp P o a w K Q else E := by
  subst hP
  obtain ⟨i0, hi, hz0, hz1, hz2⟩ := info_parts info85
  exact step_appendR w hgd s x 46 ho B 85 i0 ((.agg #[.int .i64 0, .int .i64 0])) 2 16 Tryz.underlying46 hi hz0 hz1 hz2 rfl (by decide) v n cs hs hown vx m news hx hr h1 (by simp only [maxLen]; omega) (by omega) hbase h

/-- append of one element just laid in a block of its own, at a step of a region that draws its order, at []api.Edge. -/
theorem sapp22 {P : Program} (hP : P = Tryz.prog) {w : World} {ops : Array Oper} {o : Oper} {a : Act} {K : Act → World → Prop} {Q : Exit → Act → World → Prop} {E : Prop} (hgd : o.guard = none) (s x : Operand)
    (ho : o.op = .call { callee := .builtin .append, args := #[s, x], argTypes := #[22, 22] })
    (B : Nat) (v : Value) (n : Nat) (cs : List Value) (hs : a.eval s = v) (W : World) (hown : Owned W B 71 3 v n cs)
    (cur : Array Value) (e' : TypeId) (hw : w = W.alloc (.cells cur e')) (g : Nat) (hg : W.heap.size = g) (hx : a.eval x = .slice (some ⟨g, 0, none⟩) 1 1) (hcur : cur.size = 3) (h1 : ∀ u ∈ cur.toList, u.oneCell' = true)
    (h63 : n < 1099511627776) (hbase : B ≤ g)
    (h : ∀ ad' cap' w', Owned w' B 71 3 (.slice ad' (n + 1) cap') (n + 1) (cs ++ cur.toList) → W.grownBy w' (myBlock v) → (myBlock (.slice ad' (n + 1) cap') = myBlock v ∨ ∃ g', myBlock (.slice ad' (n + 1) cap') = some g' ∧ g ≤ g') → K (a.put o.dst (.slice ad' (n + 1) cap')) w') :
    if Region.wanted o (yielded ops a.tmps) = true then Oper.wp P o a w K Q else E := by
  subst hP
  obtain ⟨i0, hi, hz0, hz1, hz2⟩ := info_parts info71
  exact step_append1 w hgd s x 22 ho B 71 i0 ((.agg #[.int .i64 0, .int .i64 0, .int .i64 0])) 3 24 Tryz.underlying22 hi hz0 hz1 hz2 rfl (by decide) v n cs hs W hown cur e' hw g hg hx hcur h1 (by omega) (by omega) hbase h
/-- append of several elements; what the older header reads still; at []api.Edge. -/
theorem appk22 {P : Program} (hP : P = Tryz.prog) {w : World} {ops : Array Oper} {rest : List Oper} {o : Oper} {a : Act} {Q : Exit → Act → World → Prop} (hgd : o.guard = none) (s x : Operand)
    (ho : o.op = .call { callee := .builtin .append, args := #[s, x], argTypes := #[22, 22] })
    (B : Nat) (v : Value) (n : Nat) (cs : List Value) (hs : a.eval s = v) (hown : Owned w B 71 3 v n cs)
    (vx : Value) (m : Nat) (news : List Value) (hx : a.eval x = vx) (hr : Reads w vx m 3 news) (h1 : ∀ u ∈ news, u.oneCell' = true)
    (h63 : n + m < 1099511627776) (hbase : B ≤ w.heap.size)
    (h : ∀ v' w', Owned w' B 71 3 v' (n + m) (cs ++ news) → w.grownBy w' (myBlock v) → (myBlock v' = myBlock v ∨ ∃ g', myBlock v' = some g' ∧ w.heap.size ≤ g') → Reads w' v n 3 cs → wpList P ops Q rest (a.put o.dst v') w') : wpList P ops Q (o :: rest) a w := by
  subst hP
  obtain ⟨i0, hi, hz0, hz1, hz2⟩ := info_parts info71
  exact wpList_appendK w hgd s x 22 ho B 71 i0 ((.agg #[.int .i64 0, .int .i64 0, .int .i64 0])) 3 24 Tryz.underlying22 hi hz0 hz1 hz2 rfl (by decide) v n cs hs hown vx m news hx hr h1 (by simp only [maxLen]; omega) (by omega) hbase h
/-- append of several elements, at a step of a region that draws its order, at []api.Edge. -/
theorem sappn22 {P : Program} (hP : P = Tryz.prog) {w : World} {ops : Array Oper} {o : Oper} {a : Act} {K : Act → World → Prop} {Q : Exit → Act → World → Prop} {E : Prop} (hgd : o.guard = none) (s x : Operand)
    (ho : o.op = .call { callee := .builtin .append, args := #[s, x], argTypes := #[22, 22] })
    (B : Nat) (v : Value) (n : Nat) (cs : List Value) (hs : a.eval s = v) (hown : Owned w B 71 3 v n cs)
    (vx : Value) (m : Nat) (news : List Value) (hx : a.eval x = vx) (hr : Reads w vx m 3 news) (h1 : ∀ u ∈ news, u.oneCell' = true)
    (h63 : n + m < 1099511627776) (hbase : B ≤ w.heap.size)
    (h : ∀ ad' cap' w', Owned w' B 71 3 (.slice ad' (n + m) cap') (n + m) (cs ++ news) → w.grownBy w' (myBlock v) → (myBlock (.slice ad' (n + m) cap') = myBlock v ∨ ∃ g', myBlock (.slice ad' (n + m) cap') = some g' ∧ w.heap.size ≤ g') → Reads w' v n 3 cs → K (a.put o.dst (.slice ad' (n + m) cap')) w') :
    if Region.wanted o (yielded ops a.tmps) = true then Oper.wp P o a w K Q else E := by
  subst hP
  obtain ⟨i0, hi, hz0, hz1, hz2⟩ := info_parts info71
  exact step_appendR w hgd s x 22 ho B 71 i0 ((.agg #[.int .i64 0, .int .i64 0, .int .i64 0])) 3 24 Tryz.underlying22 hi hz0 hz1 hz2 rfl (by decide) v n cs hs hown vx m news hx hr h1 (by simp only [maxLen]; omega) (by omega) hbase h

/-- append of one element just laid in a block of its own, at a step of a region that draws its order, at [][]int. -/
theorem sapp32 {P : Program} (hP : P = Tryz.prog) {w : World} {ops : Array Oper} {o : Oper} {a : Act} {K : Act → World → Prop} {Q : Exit → Act → World → Prop} {E : Prop} (hgd : o.guard = none) (s x : Operand)
    (ho : o.op = .call { callee := .builtin .append, args := #[s, x], argTypes := #[32, 32] })
    (B : Nat) (v : Value) (n : Nat) (cs : List Value) (hs : a.eval s = v) (W : World) (hown : Owned W B 49 1 v n cs)
    (cur : Array Value) (e' : TypeId) (hw : w = W.alloc (.cells cur e')) (g : Nat) (hg : W.heap.size = g) (hx : a.eval x = .slice (some ⟨g, 0, none⟩) 1 1) (hcur : cur.size = 1) (h1 : ∀ u ∈ cur.toList, u.oneCell' = true)
    (h63 : n < 1099511627776) (hbase : B ≤ g)
    (h : ∀ ad' cap' w', Owned w' B 49 1 (.slice ad' (n + 1) cap') (n + 1) (cs ++ cur.toList) → W.grownBy w' (myBlock v) → (myBlock (.slice ad' (n + 1) cap') = myBlock v ∨ ∃ g', myBlock (.slice ad' (n + 1) cap') = some g' ∧ g ≤ g') → K (a.put o.dst (.slice ad' (n + 1) cap')) w') :
    if Region.wanted o (yielded ops a.tmps) = true then Oper.wp P o a w K Q else E := by
  subst hP
  obtain ⟨i0, hi, hz0, hz1, hz2⟩ := info_parts info49
  exact step_append1 w hgd s x 32 ho B 49 i0 ((.slice none 0 0)) 1 24 Tryz.underlying32 hi hz0 hz1 hz2 rfl (by decide) v n cs hs W hown cur e' hw g hg hx hcur h1 (by omega) (by omega) hbase h
/-- append of several elements; what the older header reads still; at [][]int. -/
theorem appk32 {P : Program} (hP : P = Tryz.prog) {w : World} {ops : Array Oper} {rest : List Oper} {o : Oper} {a : Act} {Q : Exit → Act → World → Prop} (hgd : o.guard = none) (s x : Operand)
    (ho : o.op = .call { callee := .builtin .append, args := #[s, x], argTypes := #[32, 32] })
    (B : Nat) (v : Value) (n : Nat) (cs : List Value) (hs : a.eval s = v) (hown : Owned w B 49 1 v n cs)
    (vx : Value) (m : Nat) (news : List Value) (hx : a.eval x = vx) (hr : Reads w vx m 1 news) (h1 : ∀ u ∈ news, u.oneCell' = true)
    (h63 : n + m < 1099511627776) (hbase : B ≤ w.heap.size)
    (h : ∀ v' w', Owned w' B 49 1 v' (n + m) (cs ++ news) → w.grownBy w' (myBlock v) → (myBlock v' = myBlock v ∨ ∃ g', myBlock v' = some g' ∧ w.heap.size ≤ g') → Reads w' v n 1 cs → wpList P ops Q rest (a.put o.dst v') w') : wpList P ops Q (o :: rest) a w := by
  subst hP
  obtain ⟨i0, hi, hz0, hz1, hz2⟩ := info_parts info49
  exact wpList_appendK w hgd s x 32 ho B 49 i0 ((.slice none 0 0)) 1 24 Tryz.underlying32 hi hz0 hz1 hz2 rfl (by decide) v n cs hs hown vx m news hx hr h1 (by simp only [maxLen]; omega) (by omega) hbase h
/-- append of several elements, at a step of a region that draws its order, at [][]int. -/
theorem sappn32 {P : Program} (hP : P = Tryz.prog) {w : World} {ops : Array Oper} {o : Oper} {a : Act} {K : Act → World → Prop} {Q : Exit → Act → World → Prop} {E : Prop} (hgd : o.guard = none) (s x : Operand)
    (ho : o.op = .call { callee := .builtin .append, args := #[s, x], argTypes := #[32, 32] })
    (B : Nat) (v : Value) (n : Nat) (cs : List Value) (hs : a.eval s = v) (hown : Owned w B 49 1 v n cs)
    (vx : Value) (m : Nat) (news : List Value) (hx : a.eval x = vx) (hr : Reads w vx m 1 news) (h1 : ∀ u ∈ news, u.oneCell' = true)
    (h63 : n + m < 1099511627776) (hbase : B ≤ w.heap.size)
    (h : ∀ ad' cap' w', Owned w' B 49 1 (.slice ad' (n + m) cap') (n + m) (cs ++ news) → w.grownBy w' (myBlock v) → (myBlock (.slice ad' (n + m) cap') = myBlock v ∨ ∃ g', myBlock (.slice ad' (n + m) cap') = some g' ∧ w.heap.size ≤ g') → Reads w' v n 1 cs → K (a.put o.dst (.slice ad' (n + m) cap')) w') :
    if Region.wanted o (yielded ops a.tmps) = true then Oper.wp P o a w K Q else E := by
  subst hP
  obtain ⟨i0, hi, hz0, hz1, hz2⟩ := info_parts info49
  exact step_appendR w hgd s x 32 ho B 49 i0 ((.slice none 0 0)) 1 24 Tryz.underlying32 hi hz0 hz1 hz2 rfl (by decide) v n cs hs hown vx m news hx hr h1 (by simp only [maxLen]; omega) (by omega) hbase h

/-- append of one element just laid in a block of its own, at a step of a region that draws its order, at [][]bool. -/
theorem sapp35 {P : Program} (hP : P = Tryz.prog) {w : World} {ops : Array Oper} {o : Oper} {a : Act} {K : Act → World → Prop} {Q : Exit → Act → World → Prop} {E : Prop} (hgd : o.guard = none) (s x : Operand)
    (ho : o.op = .call { callee := .builtin .append, args := #[s, x], argTypes := #[35, 35] })
    (B : Nat) (v : Value) (n : Nat) (cs : List Value) (hs : a.eval s = v) (W : World) (hown : Owned W B 73 1 v n cs)
    (cur : Array Value) (e' : TypeId) (hw : w = W.alloc (.cells cur e')) (g : Nat) (hg : W.heap.size = g) (hx : a.eval x = .slice (some ⟨g, 0, none⟩) 1 1) (hcur : cur.size = 1) (h1 : ∀ u ∈ cur.toList, u.oneCell' = true)
    (h63 : n < 1099511627776) (hbase : B ≤ g)
    (h : ∀ ad' cap' w', Owned w' B 73 1 (.slice ad' (n + 1) cap') (n + 1) (cs ++ cur.toList) → W.grownBy w' (myBlock v) → (myBlock (.slice ad' (n + 1) cap') = myBlock v ∨ ∃ g', myBlock (.slice ad' (n + 1) cap') = some g' ∧ g ≤ g') → K (a.put o.dst (.slice ad' (n + 1) cap')) w') :
    if Region.wanted o (yielded ops a.tmps) = true then Oper.wp P o a w K Q else E := by
  subst hP
  obtain ⟨i0, hi, hz0, hz1, hz2⟩ := info_parts info73
  exact step_append1 w hgd s x 35 ho B 73 i0 ((.slice none 0 0)) 1 24 Tryz.underlying35 hi hz0 hz1 hz2 rfl (by decide) v n cs hs W hown cur e' hw g hg hx hcur h1 (by omega) (by omega) hbase h
/-- append of several elements; what the older header reads still; at [][]bool. -/
theorem appk35 {P : Program} (hP : P = Tryz.prog) {w : World} {ops : Array Oper} {rest : List Oper} {o : Oper} {a : Act} {Q : Exit → Act → World → Prop} (hgd : o.guard = none) (s x : Operand)
    (ho : o.op = .call { callee := .builtin .append, args := #[s, x], argTypes := #[35, 35] })
    (B : Nat) (v : Value) (n : Nat) (cs : List Value) (hs : a.eval s = v) (hown : Owned w B 73 1 v n cs)
    (vx : Value) (m : Nat) (news : List Value) (hx : a.eval x = vx) (hr : Reads w vx m 1 news) (h1 : ∀ u ∈ news, u.oneCell' = true)
    (h63 : n + m < 1099511627776) (hbase : B ≤ w.heap.size)
    (h : ∀ v' w', Owned w' B 73 1 v' (n + m) (cs ++ news) → w.grownBy w' (myBlock v) → (myBlock v' = myBlock v ∨ ∃ g', myBlock v' = some g' ∧ w.heap.size ≤ g') → Reads w' v n 1 cs → wpList P ops Q rest (a.put o.dst v') w') : wpList P ops Q (o :: rest) a w := by
  subst hP
  obtain ⟨i0, hi, hz0, hz1, hz2⟩ := info_parts info73
  exact wpList_appendK w hgd s x 35 ho B 73 i0 ((.slice none 0 0)) 1 24 Tryz.underlying35 hi hz0 hz1 hz2 rfl (by decide) v n cs hs hown vx m news hx hr h1 (by simp only [maxLen]; omega) (by omega) hbase h
/-- append of several elements, at a step of a region that draws its order, at [][]bool. -/
theorem sappn35 {P : Program} (hP : P = Tryz.prog) {w : World} {ops : Array Oper} {o : Oper} {a : Act} {K : Act → World → Prop} {Q : Exit → Act → World → Prop} {E : Prop} (hgd : o.guard = none) (s x : Operand)
    (ho : o.op = .call { callee := .builtin .append, args := #[s, x], argTypes := #[35, 35] })
    (B : Nat) (v : Value) (n : Nat) (cs : List Value) (hs : a.eval s = v) (hown : Owned w B 73 1 v n cs)
    (vx : Value) (m : Nat) (news : List Value) (hx : a.eval x = vx) (hr : Reads w vx m 1 news) (h1 : ∀ u ∈ news, u.oneCell' = true)
    (h63 : n + m < 1099511627776) (hbase : B ≤ w.heap.size)
    (h : ∀ ad' cap' w', Owned w' B 73 1 (.slice ad' (n + m) cap') (n + m) (cs ++ news) → w.grownBy w' (myBlock v) → (myBlock (.slice ad' (n + m) cap') = myBlock v ∨ ∃ g', myBlock (.slice ad' (n + m) cap') = some g' ∧ w.heap.size ≤ g') → Reads w' v n 1 cs → K (a.put o.dst (.slice ad' (n + m) cap')) w') :
    if Region.wanted o (yielded ops a.tmps) = true then Oper.wp P o a w K Q else E := by
  subst hP
  obtain ⟨i0, hi, hz0, hz1, hz2⟩ := info_parts info73
  exact step_appendR w hgd s x 35 ho B 73 i0 ((.slice none 0 0)) 1 24 Tryz.underlying35 hi hz0 hz1 hz2 rfl (by decide) v n cs hs hown vx m news hx hr h1 (by simp only [maxLen]; omega) (by omega) hbase h

/-- append of one element just laid in a block of its own, at a step of a region that draws its order, at [][]api.Step. -/
theorem sapp36 {P : Program} (hP : P = Tryz.prog) {w : World} {ops : Array Oper} {o : Oper} {a : Act} {K : Act → World → Prop} {Q : Exit → Act → World → Prop} {E : Prop} (hgd : o.guard = none) (s x : Operand)
    (ho : o.op = .call { callee := .builtin .append, args := #[s, x], argTypes := #[36, 36] })
    (B : Nat) (v : Value) (n : Nat) (cs : List Value) (hs : a.eval s = v) (W : World) (hown : Owned W B 46 1 v n cs)
    (cur : Array Value) (e' : TypeId) (hw : w = W.alloc (.cells cur e')) (g : Nat) (hg : W.heap.size = g) (hx : a.eval x = .slice (some ⟨g, 0, none⟩) 1 1) (hcur : cur.size = 1) (h1 : ∀ u ∈ cur.toList, u.oneCell' = true)
    (h63 : n < 1099511627776) (hbase : B ≤ g)
    (h : ∀ ad' cap' w', Owned w' B 46 1 (.slice ad' (n + 1) cap') (n + 1) (cs ++ cur.toList) → W.grownBy w' (myBlock v) → (myBlock (.slice ad' (n + 1) cap') = myBlock v ∨ ∃ g', myBlock (.slice ad' (n + 1) cap') = some g' ∧ g ≤ g') → K (a.put o.dst (.slice ad' (n + 1) cap')) w') :
    if Region.wanted o (yielded ops a.tmps) = true then Oper.wp P o a w K Q else E := by
  subst hP
  obtain ⟨i0, hi, hz0, hz1, hz2⟩ := info_parts info46
  exact step_append1 w hgd s x 36 ho B 46 i0 ((.slice none 0 0)) 1 24 Tryz.underlying36 hi hz0 hz1 hz2 rfl (by decide) v n cs hs W hown cur e' hw g hg hx hcur h1 (by omega) (by omega) hbase h
/-- append of several elements; what the older header reads still; at [][]api.Step. -/
theorem appk36 {P : Program} (hP : P = Tryz.prog) {w : World} {ops : Array Oper} {rest : List Oper} {o : Oper} {a : Act} {Q : Exit → Act → World → Prop} (hgd : o.guard = none) (s x : Operand)
    (ho : o.op = .call { callee := .builtin .append, args := #[s, x], argTypes := #[36, 36] })
    (B : Nat) (v : Value) (n : Nat) (cs : List Value) (hs : a.eval s = v) (hown : Owned w B 46 1 v n cs)
    (vx : Value) (m : Nat) (news : List Value) (hx : a.eval x = vx) (hr : Reads w vx m 1 news) (h1 : ∀ u ∈ news, u.oneCell' = true)
    (h63 : n + m < 1099511627776) (hbase : B ≤ w.heap.size)
    (h : ∀ v' w', Owned w' B 46 1 v' (n + m) (cs ++ news) → w.grownBy w' (myBlock v) → (myBlock v' = myBlock v ∨ ∃ g', myBlock v' = some g' ∧ w.heap.size ≤ g') → Reads w' v n 1 cs → wpList P ops Q rest (a.put o.dst v') w') : wpList P ops Q (o :: rest) a w := by
  subst hP
  obtain ⟨i0, hi, hz0, hz1, hz2⟩ := info_parts info46
  exact wpList_appendK w hgd s x 36 ho B 46 i0 ((.slice none 0 0)) 1 24 Tryz.underlying36 hi hz0 hz1 hz2 rfl (by decide) v n cs hs hown vx m news hx hr h1 (by simp only [maxLen]; omega) (by omega) hbase h
/-- append of several elements, at a step of a region that draws its order, at [][]api.Step. -/
theorem sappn36 {P : Program} (hP : P = Tryz.prog) {w : World} {ops : Array Oper} {o : Oper} {a : Act} {K : Act → World → Prop} {Q : Exit → Act → World → Prop} {E : Prop} (hgd : o.guard = none) (s x : Operand)
    (ho : o.op = .call { callee := .builtin .append, args := #[s, x], argTypes := #[36, 36] })
    (B : Nat) (v : Value) (n : Nat) (cs : List Value) (hs : a.eval s = v) (hown : Owned w B 46 1 v n cs)
    (vx : Value) (m : Nat) (news : List Value) (hx : a.eval x = vx) (hr : Reads w vx m 1 news) (h1 : ∀ u ∈ news, u.oneCell' = true)
    (h63 : n + m < 1099511627776) (hbase : B ≤ w.heap.size)
    (h : ∀ ad' cap' w', Owned w' B 46 1 (.slice ad' (n + m) cap') (n + m) (cs ++ news) → w.grownBy w' (myBlock v) → (myBlock (.slice ad' (n + m) cap') = myBlock v ∨ ∃ g', myBlock (.slice ad' (n + m) cap') = some g' ∧ w.heap.size ≤ g') → Reads w' v n 1 cs → K (a.put o.dst (.slice ad' (n + m) cap')) w') :
    if Region.wanted o (yielded ops a.tmps) = true then Oper.wp P o a w K Q else E := by
  subst hP
  obtain ⟨i0, hi, hz0, hz1, hz2⟩ := info_parts info46
  exact step_appendR w hgd s x 36 ho B 46 i0 ((.slice none 0 0)) 1 24 Tryz.underlying36 hi hz0 hz1 hz2 rfl (by decide) v n cs hs hown vx m news hx hr h1 (by simp only [maxLen]; omega) (by omega) hbase h

/-- append of one element just laid in a block of its own, at a step of a region that draws its order, at [][]api.Edge. -/
theorem sapp37 {P : Program} (hP : P = Tryz.prog) {w : World} {ops : Array Oper} {o : Oper} {a : Act} {K : Act → World → Prop} {Q : Exit → Act → World → Prop} {E : Prop} (hgd : o.guard = none) (s x : Operand)
    (ho : o.op = .call { callee := .builtin .append, args := #[s, x], argTypes := #[37, 37] })
    (B : Nat) (v : Value) (n : Nat) (cs : List Value) (hs : a.eval s = v) (W : World) (hown : Owned W B 22 1 v n cs)
    (cur : Array Value) (e' : TypeId) (hw : w = W.alloc (.cells cur e')) (g : Nat) (hg : W.heap.size = g) (hx : a.eval x = .slice (some ⟨g, 0, none⟩) 1 1) (hcur : cur.size = 1) (h1 : ∀ u ∈ cur.toList, u.oneCell' = true)
    (h63 : n < 1099511627776) (hbase : B ≤ g)
    (h : ∀ ad' cap' w', Owned w' B 22 1 (.slice ad' (n + 1) cap') (n + 1) (cs ++ cur.toList) → W.grownBy w' (myBlock v) → (myBlock (.slice ad' (n + 1) cap') = myBlock v ∨ ∃ g', myBlock (.slice ad' (n + 1) cap') = some g' ∧ g ≤ g') → K (a.put o.dst (.slice ad' (n + 1) cap')) w') :
    if Region.wanted o (yielded ops a.tmps) = true then Oper.wp P o a w K Q else E := by
  subst hP
  obtain ⟨i0, hi, hz0, hz1, hz2⟩ := info_parts info22
  exact step_append1 w hgd s x 37 ho B 22 i0 ((.slice none 0 0)) 1 24 Tryz.underlying37 hi hz0 hz1 hz2 rfl (by decide) v n cs hs W hown cur e' hw g hg hx hcur h1 (by omega) (by omega) hbase h
/-- append of several elements; what the older header reads still; at [][]api.Edge. -/
theorem appk37 {P : Program} (hP : P = Tryz.prog) {w : World} {ops : Array Oper} {rest : List Oper} {o : Oper} {a : Act} {Q : Exit → Act → World → Prop} (hgd : o.guard = none) (s x : Operand)
    (ho : o.op = .call { callee := .builtin .append, args := #[s, x], argTypes := #[37, 37] })
    (B : Nat) (v : Value) (n : Nat) (cs : List Value) (hs : a.eval s = v) (hown : Owned w B 22 1 v n cs)
    (vx : Value) (m : Nat) (news : List Value) (hx : a.eval x = vx) (hr : Reads w vx m 1 news) (h1 : ∀ u ∈ news, u.oneCell' = true)
    (h63 : n + m < 1099511627776) (hbase : B ≤ w.heap.size)
    (h : ∀ v' w', Owned w' B 22 1 v' (n + m) (cs ++ news) → w.grownBy w' (myBlock v) → (myBlock v' = myBlock v ∨ ∃ g', myBlock v' = some g' ∧ w.heap.size ≤ g') → Reads w' v n 1 cs → wpList P ops Q rest (a.put o.dst v') w') : wpList P ops Q (o :: rest) a w := by
  subst hP
  obtain ⟨i0, hi, hz0, hz1, hz2⟩ := info_parts info22
  exact wpList_appendK w hgd s x 37 ho B 22 i0 ((.slice none 0 0)) 1 24 Tryz.underlying37 hi hz0 hz1 hz2 rfl (by decide) v n cs hs hown vx m news hx hr h1 (by simp only [maxLen]; omega) (by omega) hbase h
/-- append of several elements, at a step of a region that draws its order, at [][]api.Edge. -/
theorem sappn37 {P : Program} (hP : P = Tryz.prog) {w : World} {ops : Array Oper} {o : Oper} {a : Act} {K : Act → World → Prop} {Q : Exit → Act → World → Prop} {E : Prop} (hgd : o.guard = none) (s x : Operand)
    (ho : o.op = .call { callee := .builtin .append, args := #[s, x], argTypes := #[37, 37] })
    (B : Nat) (v : Value) (n : Nat) (cs : List Value) (hs : a.eval s = v) (hown : Owned w B 22 1 v n cs)
    (vx : Value) (m : Nat) (news : List Value) (hx : a.eval x = vx) (hr : Reads w vx m 1 news) (h1 : ∀ u ∈ news, u.oneCell' = true)
    (h63 : n + m < 1099511627776) (hbase : B ≤ w.heap.size)
    (h : ∀ ad' cap' w', Owned w' B 22 1 (.slice ad' (n + m) cap') (n + m) (cs ++ news) → w.grownBy w' (myBlock v) → (myBlock (.slice ad' (n + m) cap') = myBlock v ∨ ∃ g', myBlock (.slice ad' (n + m) cap') = some g' ∧ w.heap.size ≤ g') → Reads w' v n 1 cs → K (a.put o.dst (.slice ad' (n + m) cap')) w') :
    if Region.wanted o (yielded ops a.tmps) = true then Oper.wp P o a w K Q else E := by
  subst hP
  obtain ⟨i0, hi, hz0, hz1, hz2⟩ := info_parts info22
  exact step_appendR w hgd s x 37 ho B 22 i0 ((.slice none 0 0)) 1 24 Tryz.underlying37 hi hz0 hz1 hz2 rfl (by decide) v n cs hs hown vx m news hx hr h1 (by simp only [maxLen]; omega) (by omega) hbase h

/-- append of one element just laid in a block of its own, at a step of a region that draws its order, at [][][]int. -/
theorem sapp40 {P : Program} (hP : P = Tryz.prog) {w : World} {ops : Array Oper} {o : Oper} {a : Act} {K : Act → World → Prop} {Q : Exit → Act → World → Prop} {E : Prop} (hgd : o.guard = none) (s x : Operand)
    (ho : o.op = .call { callee := .builtin .append, args := #[s, x], argTypes := #[40, 40] })
    (B : Nat) (v : Value) (n : Nat) (cs : List Value) (hs : a.eval s = v) (W : World) (hown : Owned W B 32 1 v n cs)
    (cur : Array Value) (e' : TypeId) (hw : w = W.alloc (.cells cur e')) (g : Nat) (hg : W.heap.size = g) (hx : a.eval x = .slice (some ⟨g, 0, none⟩) 1 1) (hcur : cur.size = 1) (h1 : ∀ u ∈ cur.toList, u.oneCell' = true)
    (h63 : n < 1099511627776) (hbase : B ≤ g)
    (h : ∀ ad' cap' w', Owned w' B 32 1 (.slice ad' (n + 1) cap') (n + 1) (cs ++ cur.toList) → W.grownBy w' (myBlock v) → (myBlock (.slice ad' (n + 1) cap') = myBlock v ∨ ∃ g', myBlock (.slice ad' (n + 1) cap') = some g' ∧ g ≤ g') → K (a.put o.dst (.slice ad' (n + 1) cap')) w') :
    if Region.wanted o (yielded ops a.tmps) = true then Oper.wp P o a w K Q else E := by
  subst hP
  obtain ⟨i0, hi, hz0, hz1, hz2⟩ := info_parts info32
  exact step_append1 w hgd s x 40 ho B 32 i0 ((.slice none 0 0)) 1 24 Tryz.underlying40 hi hz0 hz1 hz2 rfl (by decide) v n cs hs W hown cur e' hw g hg hx hcur h1 (by omega) (by omega) hbase h
/-- append of several elements; what the older header reads still; at [][][]int. -/
theorem appk40 {P : Program} (hP : P = Tryz.prog) {w : World} {ops : Array Oper} {rest : List Oper} {o : Oper} {a : Act} {Q : Exit → Act → World → Prop} (hgd : o.guard = none) (s x : Operand)
    (ho : o.op = .call { callee := .builtin .append, args := #[s, x], argTypes := #[40, 40] })
    (B : Nat) (v : Value) (n : Nat) (cs : List Value) (hs : a.eval s = v) (hown : Owned w B 32 1 v n cs)
    (vx : Value) (m : Nat) (news : List Value) (hx : a.eval x = vx) (hr : Reads w vx m 1 news) (h1 : ∀ u ∈ news, u.oneCell' = true)
    (h63 : n + m < 1099511627776) (hbase : B ≤ w.heap.size)
    (h : ∀ v' w', Owned w' B 32 1 v' (n + m) (cs ++ news) → w.grownBy w' (myBlock v) → (myBlock v' = myBlock v ∨ ∃ g', myBlock v' = some g' ∧ w.heap.size ≤ g') → Reads w' v n 1 cs → wpList P ops Q rest (a.put o.dst v') w') : wpList P ops Q (o :: rest) a w := by
  subst hP
  obtain ⟨i0, hi, hz0, hz1, hz2⟩ := info_parts info32
  exact wpList_appendK w hgd s x 40 ho B 32 i0 ((.slice none 0 0)) 1 24 Tryz.underlying40 hi hz0 hz1 hz2 rfl (by decide) v n cs hs hown vx m news hx hr h1 (by simp only [maxLen]; omega) (by omega) hbase h
/-- append of several elements, at a step of a region that draws its order, at [][][]int. -/
theorem sappn40 {P : Program} (hP : P = Tryz.prog) {w : World} {ops : Array Oper} {o : Oper} {a : Act} {K : Act → World → Prop} {Q : Exit → Act → World → Prop} {E : Prop} (hgd : o.guard = none) (s x : Operand)
    (ho : o.op = .call { callee := .builtin .append, args := #[s, x], argTypes := #[40, 40] })
    (B : Nat) (v : Value) (n : Nat) (cs : List Value) (hs : a.eval s = v) (hown : Owned w B 32 1 v n cs)
    (vx : Value) (m : Nat) (news : List Value) (hx : a.eval x = vx) (hr : Reads w vx m 1 news) (h1 : ∀ u ∈ news, u.oneCell' = true)
    (h63 : n + m < 1099511627776) (hbase : B ≤ w.heap.size)
    (h : ∀ ad' cap' w', Owned w' B 32 1 (.slice ad' (n + m) cap') (n + m) (cs ++ news) → w.grownBy w' (myBlock v) → (myBlock (.slice ad' (n + m) cap') = myBlock v ∨ ∃ g', myBlock (.slice ad' (n + m) cap') = some g' ∧ w.heap.size ≤ g') → Reads w' v n 1 cs → K (a.put o.dst (.slice ad' (n + m) cap')) w') :
    if Region.wanted o (yielded ops a.tmps) = true then Oper.wp P o a w K Q else E := by
  subst hP
  obtain ⟨i0, hi, hz0, hz1, hz2⟩ := info_parts info32
  exact step_appendR w hgd s x 40 ho B 32 i0 ((.slice none 0 0)) 1 24 Tryz.underlying40 hi hz0 hz1 hz2 rfl (by decide) v n cs hs hown vx m news hx hr h1 (by simp only [maxLen]; omega) (by omega) hbase h

/-- append of one element just laid in a block of its own, at a step of a region that draws its order, at [][][]api.Step. -/
theorem sapp42 {P : Program} (hP : P = Tryz.prog) {w : World} {ops : Array Oper} {o : Oper} {a : Act} {K : Act → World → Prop} {Q : Exit → Act → World → Prop} {E : Prop} (hgd : o.guard = none) (s x : Operand)
    (ho : o.op = .call { callee := .builtin .append, args := #[s, x], argTypes := #[42, 42] })
    (B : Nat) (v : Value) (n : Nat) (cs : List Value) (hs : a.eval s = v) (W : World) (hown : Owned W B 36 1 v n cs)
    (cur : Array Value) (e' : TypeId) (hw : w = W.alloc (.cells cur e')) (g : Nat) (hg : W.heap.size = g) (hx : a.eval x = .slice (some ⟨g, 0, none⟩) 1 1) (hcur : cur.size = 1) (h1 : ∀ u ∈ cur.toList, u.oneCell' = true)
    (h63 : n < 1099511627776) (hbase : B ≤ g)
    (h : ∀ ad' cap' w', Owned w' B 36 1 (.slice ad' (n + 1) cap') (n + 1) (cs ++ cur.toList) → W.grownBy w' (myBlock v) → (myBlock (.slice ad' (n + 1) cap') = myBlock v ∨ ∃ g', myBlock (.slice ad' (n + 1) cap') = some g' ∧ g ≤ g') → K (a.put o.dst (.slice ad' (n + 1) cap')) w') :
    if Region.wanted o (yielded ops a.tmps) = true then Oper.wp P o a w K Q else E := by
  subst hP
  obtain ⟨i0, hi, hz0, hz1, hz2⟩ := info_parts info36
  exact step_append1 w hgd s x 42 ho B 36 i0 ((.slice none 0 0)) 1 24 Tryz.underlying42 hi hz0 hz1 hz2 rfl (by decide) v n cs hs W hown cur e' hw g hg hx hcur h1 (by omega) (by omega) hbase h
/-- append of several elements; what the older header reads still; at [][][]api.Step. -/
theorem appk42 {P : Program} (hP : P = Tryz.prog) {w : World} {ops : Array Oper} {rest : List Oper} {o : Oper} {a : Act} {Q : Exit → Act → World → Prop} (hgd : o.guard = none) (s x : Operand)
    (ho : o.op = .call { callee := .builtin .append, args := #[s, x], argTypes := #[42, 42] })
    (B : Nat) (v : Value) (n : Nat) (cs : List Value) (hs : a.eval s = v) (hown : Owned w B 36 1 v n cs)
    (vx : Value) (m : Nat) (news : List Value) (hx : a.eval x = vx) (hr : Reads w vx m 1 news) (h1 : ∀ u ∈ news, u.oneCell' = true)
    (h63 : n + m < 1099511627776) (hbase : B ≤ w.heap.size)
    (h : ∀ v' w', Owned w' B 36 1 v' (n + m) (cs ++ news) → w.grownBy w' (myBlock v) → (myBlock v' = myBlock v ∨ ∃ g', myBlock v' = some g' ∧ w.heap.size ≤ g') → Reads w' v n 1 cs → wpList P ops Q rest (a.put o.dst v') w') : wpList P ops Q (o :: rest) a w := by
  subst hP
  obtain ⟨i0, hi, hz0, hz1, hz2⟩ := info_parts info36
  exact wpList_appendK w hgd s x 42 ho B 36 i0 ((.slice none 0 0)) 1 24 Tryz.underlying42 hi hz0 hz1 hz2 rfl (by decide) v n cs hs hown vx m news hx hr h1 (by simp only [maxLen]; omega) (by omega) hbase h
/-- append of several elements, at a step of a region that draws its order, at [][][]api.Step. -/
theorem sappn42 {P : Program} (hP : P = Tryz.prog) {w : World} {ops : Array Oper} {o : Oper} {a : Act} {K : Act → World → Prop} {Q : Exit → Act → World → Prop} {E : Prop} (hgd : o.guard = none) (s x : Operand)
    (ho : o.op = .call { callee := .builtin .append, args := #[s, x], argTypes := #[42, 42] })
    (B : Nat) (v : Value) (n : Nat) (cs : List Value) (hs : a.eval s = v) (hown : Owned w B 36 1 v n cs)
    (vx : Value) (m : Nat) (news : List Value) (hx : a.eval x = vx) (hr : Reads w vx m 1 news) (h1 : ∀ u ∈ news, u.oneCell' = true)
    (h63 : n + m < 1099511627776) (hbase : B ≤ w.heap.size)
    (h : ∀ ad' cap' w', Owned w' B 36 1 (.slice ad' (n + m) cap') (n + m) (cs ++ news) → w.grownBy w' (myBlock v) → (myBlock (.slice ad' (n + m) cap') = myBlock v ∨ ∃ g', myBlock (.slice ad' (n + m) cap') = some g' ∧ w.heap.size ≤ g') → Reads w' v n 1 cs → K (a.put o.dst (.slice ad' (n + m) cap')) w') :
    if Region.wanted o (yielded ops a.tmps) = true then Oper.wp P o a w K Q else E := by
  subst hP
  obtain ⟨i0, hi, hz0, hz1, hz2⟩ := info_parts info36
  exact step_appendR w hgd s x 42 ho B 36 i0 ((.slice none 0 0)) 1 24 Tryz.underlying42 hi hz0 hz1 hz2 rfl (by decide) v n cs hs hown vx m news hx hr h1 (by simp only [maxLen]; omega) (by omega) hbase h

end Go.Proofs.YtkknklagoghljaaGreatDoor
