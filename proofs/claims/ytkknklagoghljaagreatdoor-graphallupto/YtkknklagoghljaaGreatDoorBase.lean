/- Closed facts of the translation: the rows of its table of types; append and make at its slice types. -/
import Derived.Test.YtkknklagoghljaaGreatDoorProg
import Derived.Test.YtkknklagoghljaaGreatDoorLib
import Derived.KernelRfl
namespace Go.Proofs.YtkknklagoghljaaGreatDoor
open Go.RowKit
theorem info3 : (Tryz.prog.info? 3).map (fun i => (i.zero, i.size, i.bytes)) = some (some (.int .i64 0), 1, 8) := by kernel_rfl
theorem info4 : (Tryz.prog.info? 4).map (fun i => (i.zero, i.size, i.bytes)) = some (some (.bool false), 1, 1) := by kernel_rfl
theorem info22 : (Tryz.prog.info? 22).map (fun i => (i.zero, i.size, i.bytes)) = some (some (.slice none 0 0), 1, 24) := by kernel_rfl
theorem info32 : (Tryz.prog.info? 32).map (fun i => (i.zero, i.size, i.bytes)) = some (some (.slice none 0 0), 1, 24) := by kernel_rfl
theorem info36 : (Tryz.prog.info? 36).map (fun i => (i.zero, i.size, i.bytes)) = some (some (.slice none 0 0), 1, 24) := by kernel_rfl
theorem info46 : (Tryz.prog.info? 46).map (fun i => (i.zero, i.size, i.bytes)) = some (some (.slice none 0 0), 1, 24) := by kernel_rfl
theorem info49 : (Tryz.prog.info? 49).map (fun i => (i.zero, i.size, i.bytes)) = some (some (.slice none 0 0), 1, 24) := by kernel_rfl
theorem info71 : (Tryz.prog.info? 71).map (fun i => (i.zero, i.size, i.bytes)) = some (some (.agg #[.int .i64 0, .int .i64 0, .int .i64 0]), 3, 24) := by kernel_rfl
theorem info73 : (Tryz.prog.info? 73).map (fun i => (i.zero, i.size, i.bytes)) = some (some (.slice none 0 0), 1, 24) := by kernel_rfl
theorem info85 : (Tryz.prog.info? 85).map (fun i => (i.zero, i.size, i.bytes)) = some (some (.agg #[.int .i64 0, .int .i64 0]), 2, 16) := by kernel_rfl
/-- append of one element just laid in a block of its own, at []int. -/
theorem app49 {P : Program} (hP : P = Tryz.prog) {w : World} {ops : Array Oper} {rest : List Oper} {o : Oper} {a : Act} {Q : Exit → Act → World → Prop} (hgd : o.guard = none) (s x : Operand)
    (ho : o.op = .call { callee := .builtin .append, args := #[s, x], argTypes := #[49, 49] })
    (B : Nat) (v : Value) (n : Nat) (cs : List Value) (hs : a.eval s = v) (W : World) (hown : Owned W B 3 1 v n cs)
    (cur : Array Value) (e' : TypeId) (hw : w = W.alloc (.cells cur e')) (g : Nat) (hg : W.heap.size = g) (hx : a.eval x = .slice (some ⟨g, 0, none⟩) 1 1) (hcur : cur.size = 1) (h1 : ∀ u ∈ cur.toList, u.oneCell' = true)
    (h63 : n < 1099511627776) (hbase : B ≤ g)
    (h : ∀ v' w', Owned w' B 3 1 v' (n + 1) (cs ++ cur.toList) → W.grownBy w' (myBlock v) → (myBlock v' = myBlock v ∨ ∃ g', myBlock v' = some g' ∧ g ≤ g') → wpList P ops Q rest (a.put o.dst v') w') : wpList P ops Q (o :: rest) a w := by
  subst hP
  obtain ⟨i0, hi, hz0, hz1, hz2⟩ := info_parts info3
  exact wpList_append1 w hgd s x 49 ho B 3 i0 ((.int .i64 0)) 1 8 Tryz.underlying49 hi hz0 hz1 hz2 rfl (by decide) v n cs hs W hown cur e' hw g hg hx hcur h1 (by omega) (by omega) hbase h
/-- append of several elements that lie somewhere, at []int. -/
theorem appn49 {P : Program} (hP : P = Tryz.prog) {w : World} {ops : Array Oper} {rest : List Oper} {o : Oper} {a : Act} {Q : Exit → Act → World → Prop} (hgd : o.guard = none) (s x : Operand)
    (ho : o.op = .call { callee := .builtin .append, args := #[s, x], argTypes := #[49, 49] })
    (B : Nat) (v : Value) (n : Nat) (cs : List Value) (hs : a.eval s = v) (hown : Owned w B 3 1 v n cs)
    (vx : Value) (m : Nat) (news : List Value) (hx : a.eval x = vx) (hr : Reads w vx m 1 news) (h1 : ∀ u ∈ news, u.oneCell' = true)
    (h63 : n + m < 1099511627776) (hbase : B ≤ w.heap.size)
    (h : ∀ v' w', Owned w' B 3 1 v' (n + m) (cs ++ news) → w.grownBy w' (myBlock v) → (myBlock v' = myBlock v ∨ ∃ g', myBlock v' = some g' ∧ w.heap.size ≤ g') → wpList P ops Q rest (a.put o.dst v') w') : wpList P ops Q (o :: rest) a w := by
  subst hP
  obtain ⟨i0, hi, hz0, hz1, hz2⟩ := info_parts info3
  exact wpList_appendR w hgd s x 49 ho B 3 i0 ((.int .i64 0)) 1 8 Tryz.underlying49 hi hz0 hz1 hz2 rfl (by decide) v n cs hs hown vx m news hx hr h1 (by simp only [maxLen]; omega) (by omega) hbase h
/-- make of a known number of elements, at []int. -/
theorem mk49 {P : Program} (hP : P = Tryz.prog) {w : World} {ops : Array Oper} {rest : List Oper} {o : Oper} {a : Act} {Q : Exit → Act → World → Prop} (hgd : o.guard = none) (x y : Operand)
    (ho : o.op = .makeSlice 49 x y) (n : Nat) (hx : a.eval x = .int .i64 n) (hy : a.eval y = .int .i64 n) (h63 : n < 1099511627776)
    (h : wpList P ops Q rest (a.put o.dst (.slice (some ⟨w.heap.size, 0, none⟩) n n)) (w.alloc (.cells (List.replicate n (.int .i64 0)).toArray 3))) : wpList P ops Q (o :: rest) a w := by
  subst hP
  obtain ⟨i0, hi, hz0, hz1, hz2⟩ := info_parts info3
  exact wpList_makeR w hgd x y 49 ho 3 i0 ((.int .i64 0)) 1 8 Tryz.underlying49 hi hz0 hz1 hz2 rfl (by decide) n hx hy (by omega) (by omega) (by rw [show (List.replicate n ((.int .i64 0) : Value).cells.toList).flatten.toArray = (List.replicate n (.int .i64 0)).toArray by simp [Value.cells]]; exact h)
/-- clear over part of a block that is known whole, at []int. -/
theorem clr49 {P : Program} (hP : P = Tryz.prog) {w : World} {ops : Array Oper} {rest : List Oper} {o : Oper} {a : Act} {Q : Exit → Act → World → Prop} (hgd : o.guard = none) (x : Operand)
    (ho : o.op = .call { callee := .builtin .clear, args := #[x], argTypes := #[49] }) (g off n c : Nat) (e' : TypeId) (cs : List Value) (hx : a.eval x = .slice (some ⟨g, off, none⟩) n c) (hrow : Row w g e' cs) (hn : 0 < n) (hfit : off + n * 1 ≤ cs.length)
    (h : ∀ w' zs, zs.length = n * 1 → Row w' g e' (cs.take off ++ zs ++ cs.drop (off + n * 1)) → w.grownBy w' (some g) → wpList P ops Q rest (a.put o.dst (.tuple #[])) w') : wpList P ops Q (o :: rest) a w := by
  subst hP
  obtain ⟨i0, hi, hz0, hz1, hz2⟩ := info_parts info3
  exact wpList_clearR w hgd x 49 ho 3 i0 ((.int .i64 0)) 1 Tryz.underlying49 hi hz0 rfl (by decide) (by simp [Value.cells, Value.oneCell']) g off n c e' cs hx hrow hn hfit (fun w' => h w' _ (by simp [Value.cells, List.length_flatten]))

/-- append of one element just laid in a block of its own, at []bool. -/
theorem app73 {P : Program} (hP : P = Tryz.prog) {w : World} {ops : Array Oper} {rest : List Oper} {o : Oper} {a : Act} {Q : Exit → Act → World → Prop} (hgd : o.guard = none) (s x : Operand)
    (ho : o.op = .call { callee := .builtin .append, args := #[s, x], argTypes := #[73, 73] })
    (B : Nat) (v : Value) (n : Nat) (cs : List Value) (hs : a.eval s = v) (W : World) (hown : Owned W B 4 1 v n cs)
    (cur : Array Value) (e' : TypeId) (hw : w = W.alloc (.cells cur e')) (g : Nat) (hg : W.heap.size = g) (hx : a.eval x = .slice (some ⟨g, 0, none⟩) 1 1) (hcur : cur.size = 1) (h1 : ∀ u ∈ cur.toList, u.oneCell' = true)
    (h63 : n < 1099511627776) (hbase : B ≤ g)
    (h : ∀ v' w', Owned w' B 4 1 v' (n + 1) (cs ++ cur.toList) → W.grownBy w' (myBlock v) → (myBlock v' = myBlock v ∨ ∃ g', myBlock v' = some g' ∧ g ≤ g') → wpList P ops Q rest (a.put o.dst v') w') : wpList P ops Q (o :: rest) a w := by
  subst hP
  obtain ⟨i0, hi, hz0, hz1, hz2⟩ := info_parts info4
  exact wpList_append1 w hgd s x 73 ho B 4 i0 ((.bool false)) 1 1 Tryz.underlying73 hi hz0 hz1 hz2 rfl (by decide) v n cs hs W hown cur e' hw g hg hx hcur h1 (by omega) (by omega) hbase h
/-- append of several elements that lie somewhere, at []bool. -/
theorem appn73 {P : Program} (hP : P = Tryz.prog) {w : World} {ops : Array Oper} {rest : List Oper} {o : Oper} {a : Act} {Q : Exit → Act → World → Prop} (hgd : o.guard = none) (s x : Operand)
    (ho : o.op = .call { callee := .builtin .append, args := #[s, x], argTypes := #[73, 73] })
    (B : Nat) (v : Value) (n : Nat) (cs : List Value) (hs : a.eval s = v) (hown : Owned w B 4 1 v n cs)
    (vx : Value) (m : Nat) (news : List Value) (hx : a.eval x = vx) (hr : Reads w vx m 1 news) (h1 : ∀ u ∈ news, u.oneCell' = true)
    (h63 : n + m < 1099511627776) (hbase : B ≤ w.heap.size)
    (h : ∀ v' w', Owned w' B 4 1 v' (n + m) (cs ++ news) → w.grownBy w' (myBlock v) → (myBlock v' = myBlock v ∨ ∃ g', myBlock v' = some g' ∧ w.heap.size ≤ g') → wpList P ops Q rest (a.put o.dst v') w') : wpList P ops Q (o :: rest) a w := by
  subst hP
  obtain ⟨i0, hi, hz0, hz1, hz2⟩ := info_parts info4
  exact wpList_appendR w hgd s x 73 ho B 4 i0 ((.bool false)) 1 1 Tryz.underlying73 hi hz0 hz1 hz2 rfl (by decide) v n cs hs hown vx m news hx hr h1 (by simp only [maxLen]; omega) (by omega) hbase h
/-- make of a known number of elements, at []bool. -/
theorem mk73 {P : Program} (hP : P = Tryz.prog) {w : World} {ops : Array Oper} {rest : List Oper} {o : Oper} {a : Act} {Q : Exit → Act → World → Prop} (hgd : o.guard = none) (x y : Operand)
    (ho : o.op = .makeSlice 73 x y) (n : Nat) (hx : a.eval x = .int .i64 n) (hy : a.eval y = .int .i64 n) (h63 : n < 1099511627776)
    (h : wpList P ops Q rest (a.put o.dst (.slice (some ⟨w.heap.size, 0, none⟩) n n)) (w.alloc (.cells (List.replicate n (.bool false)).toArray 4))) : wpList P ops Q (o :: rest) a w := by
  subst hP
  obtain ⟨i0, hi, hz0, hz1, hz2⟩ := info_parts info4
  exact wpList_makeR w hgd x y 73 ho 4 i0 ((.bool false)) 1 1 Tryz.underlying73 hi hz0 hz1 hz2 rfl (by decide) n hx hy (by omega) (by omega) (by rw [show (List.replicate n ((.bool false) : Value).cells.toList).flatten.toArray = (List.replicate n (.bool false)).toArray by simp [Value.cells]]; exact h)
/-- clear over part of a block that is known whole, at []bool. -/
theorem clr73 {P : Program} (hP : P = Tryz.prog) {w : World} {ops : Array Oper} {rest : List Oper} {o : Oper} {a : Act} {Q : Exit → Act → World → Prop} (hgd : o.guard = none) (x : Operand)
    (ho : o.op = .call { callee := .builtin .clear, args := #[x], argTypes := #[73] }) (g off n c : Nat) (e' : TypeId) (cs : List Value) (hx : a.eval x = .slice (some ⟨g, off, none⟩) n c) (hrow : Row w g e' cs) (hn : 0 < n) (hfit : off + n * 1 ≤ cs.length)
    (h : ∀ w' zs, zs.length = n * 1 → Row w' g e' (cs.take off ++ zs ++ cs.drop (off + n * 1)) → w.grownBy w' (some g) → wpList P ops Q rest (a.put o.dst (.tuple #[])) w') : wpList P ops Q (o :: rest) a w := by
  subst hP
  obtain ⟨i0, hi, hz0, hz1, hz2⟩ := info_parts info4
  exact wpList_clearR w hgd x 73 ho 4 i0 ((.bool false)) 1 Tryz.underlying73 hi hz0 rfl (by decide) (by simp [Value.cells, Value.oneCell']) g off n c e' cs hx hrow hn hfit (fun w' => h w' _ (by simp [Value.cells, List.length_flatten]))

/-- append of one element just laid in a block of its own, at []api.Step. -/
theorem app46 {P : Program} (hP : P = Tryz.prog) {w : World} {ops : Array Oper} {rest : List Oper} {o : Oper} {a : Act} {Q : Exit → Act → World → Prop} (hgd : o.guard = none) (s x : Operand)
    (ho : o.op = .call { callee := .builtin .append, args := #[s, x], argTypes := #[46, 46] })
    (B : Nat) (v : Value) (n : Nat) (cs : List Value) (hs : a.eval s = v) (W : World) (hown : Owned W B 85 2 v n cs)
    (cur : Array Value) (e' : TypeId) (hw : w = W.alloc (.cells cur e')) (g : Nat) (hg : W.heap.size = g) (hx : a.eval x = .slice (some ⟨g, 0, none⟩) 1 1) (hcur : cur.size = 2) (h1 : ∀ u ∈ cur.toList, u.oneCell' = true)
    (h63 : n < 1099511627776) (hbase : B ≤ g)
    (h : ∀ v' w', Owned w' B 85 2 v' (n + 1) (cs ++ cur.toList) → W.grownBy w' (myBlock v) → (myBlock v' = myBlock v ∨ ∃ g', myBlock v' = some g' ∧ g ≤ g') → wpList P ops Q rest (a.put o.dst v') w') : wpList P ops Q (o :: rest) a w := by
  subst hP
  obtain ⟨i0, hi, hz0, hz1, hz2⟩ := info_parts info85
  exact wpList_append1 w hgd s x 46 ho B 85 i0 ((.agg #[.int .i64 0, .int .i64 0])) 2 16 Tryz.underlying46 hi hz0 hz1 hz2 rfl (by decide) v n cs hs W hown cur e' hw g hg hx hcur h1 (by omega) (by omega) hbase h
/-- append of several elements that lie somewhere, at []api.Step. -/
theorem appn46 {P : Program} (hP : P = Tryz.prog) {w : World} {ops : Array Oper} {rest : List Oper} {o : Oper} {a : Act} {Q : Exit → Act → World → Prop} (hgd : o.guard = none) (s x : Operand)
    (ho : o.op = .call { callee := .builtin .append, args := #[s, x], argTypes := #[46, 46] })
    (B : Nat) (v : Value) (n : Nat) (cs : List Value) (hs : a.eval s = v) (hown : Owned w B 85 2 v n cs)
    (vx : Value) (m : Nat) (news : List Value) (hx : a.eval x = vx) (hr : Reads w vx m 2 news) (h1 : ∀ u ∈ news, u.oneCell' = true)
    (h63 : n + m < 1099511627776) (hbase : B ≤ w.heap.size)
    (h : ∀ v' w', Owned w' B 85 2 v' (n + m) (cs ++ news) → w.grownBy w' (myBlock v) → (myBlock v' = myBlock v ∨ ∃ g', myBlock v' = some g' ∧ w.heap.size ≤ g') → wpList P ops Q rest (a.put o.dst v') w') : wpList P ops Q (o :: rest) a w := by
  subst hP
  obtain ⟨i0, hi, hz0, hz1, hz2⟩ := info_parts info85
  exact wpList_appendR w hgd s x 46 ho B 85 i0 ((.agg #[.int .i64 0, .int .i64 0])) 2 16 Tryz.underlying46 hi hz0 hz1 hz2 rfl (by decide) v n cs hs hown vx m news hx hr h1 (by simp only [maxLen]; omega) (by omega) hbase h
/-- make of a known number of elements, at []api.Step. -/
theorem mk46 {P : Program} (hP : P = Tryz.prog) {w : World} {ops : Array Oper} {rest : List Oper} {o : Oper} {a : Act} {Q : Exit → Act → World → Prop} (hgd : o.guard = none) (x y : Operand)
    (ho : o.op = .makeSlice 46 x y) (n : Nat) (hx : a.eval x = .int .i64 n) (hy : a.eval y = .int .i64 n) (h63 : n < 1099511627776)
    (h : wpList P ops Q rest (a.put o.dst (.slice (some ⟨w.heap.size, 0, none⟩) n n)) (w.alloc (.cells (List.replicate n [.int .i64 0, .int .i64 0]).flatten.toArray 85))) : wpList P ops Q (o :: rest) a w := by
  subst hP
  obtain ⟨i0, hi, hz0, hz1, hz2⟩ := info_parts info85
  exact wpList_makeR w hgd x y 46 ho 85 i0 ((.agg #[.int .i64 0, .int .i64 0])) 2 16 Tryz.underlying46 hi hz0 hz1 hz2 rfl (by decide) n hx hy (by omega) (by omega) (by rw [show (List.replicate n ((.agg #[.int .i64 0, .int .i64 0]) : Value).cells.toList).flatten.toArray = (List.replicate n [.int .i64 0, .int .i64 0]).flatten.toArray by simp [Value.cells]]; exact h)
/-- clear over part of a block that is known whole, at []api.Step. -/
theorem clr46 {P : Program} (hP : P = Tryz.prog) {w : World} {ops : Array Oper} {rest : List Oper} {o : Oper} {a : Act} {Q : Exit → Act → World → Prop} (hgd : o.guard = none) (x : Operand)
    (ho : o.op = .call { callee := .builtin .clear, args := #[x], argTypes := #[46] }) (g off n c : Nat) (e' : TypeId) (cs : List Value) (hx : a.eval x = .slice (some ⟨g, off, none⟩) n c) (hrow : Row w g e' cs) (hn : 0 < n) (hfit : off + n * 2 ≤ cs.length)
    (h : ∀ w' zs, zs.length = n * 2 → Row w' g e' (cs.take off ++ zs ++ cs.drop (off + n * 2)) → w.grownBy w' (some g) → wpList P ops Q rest (a.put o.dst (.tuple #[])) w') : wpList P ops Q (o :: rest) a w := by
  subst hP
  obtain ⟨i0, hi, hz0, hz1, hz2⟩ := info_parts info85
  exact wpList_clearR w hgd x 46 ho 85 i0 ((.agg #[.int .i64 0, .int .i64 0])) 2 Tryz.underlying46 hi hz0 rfl (by decide) (by simp [Value.cells, Value.oneCell']) g off n c e' cs hx hrow hn hfit (fun w' => h w' _ (by simp [Value.cells, List.length_flatten]))

/-- append of one element just laid in a block of its own, at []api.Edge. -/
theorem app22 {P : Program} (hP : P = Tryz.prog) {w : World} {ops : Array Oper} {rest : List Oper} {o : Oper} {a : Act} {Q : Exit → Act → World → Prop} (hgd : o.guard = none) (s x : Operand)
    (ho : o.op = .call { callee := .builtin .append, args := #[s, x], argTypes := #[22, 22] })
    (B : Nat) (v : Value) (n : Nat) (cs : List Value) (hs : a.eval s = v) (W : World) (hown : Owned W B 71 3 v n cs)
    (cur : Array Value) (e' : TypeId) (hw : w = W.alloc (.cells cur e')) (g : Nat) (hg : W.heap.size = g) (hx : a.eval x = .slice (some ⟨g, 0, none⟩) 1 1) (hcur : cur.size = 3) (h1 : ∀ u ∈ cur.toList, u.oneCell' = true)
    (h63 : n < 1099511627776) (hbase : B ≤ g)
    (h : ∀ v' w', Owned w' B 71 3 v' (n + 1) (cs ++ cur.toList) → W.grownBy w' (myBlock v) → (myBlock v' = myBlock v ∨ ∃ g', myBlock v' = some g' ∧ g ≤ g') → wpList P ops Q rest (a.put o.dst v') w') : wpList P ops Q (o :: rest) a w := by
  subst hP
  obtain ⟨i0, hi, hz0, hz1, hz2⟩ := info_parts info71
  exact wpList_append1 w hgd s x 22 ho B 71 i0 ((.agg #[.int .i64 0, .int .i64 0, .int .i64 0])) 3 24 Tryz.underlying22 hi hz0 hz1 hz2 rfl (by decide) v n cs hs W hown cur e' hw g hg hx hcur h1 (by omega) (by omega) hbase h
/-- append of several elements that lie somewhere, at []api.Edge. -/
theorem appn22 {P : Program} (hP : P = Tryz.prog) {w : World} {ops : Array Oper} {rest : List Oper} {o : Oper} {a : Act} {Q : Exit → Act → World → Prop} (hgd : o.guard = none) (s x : Operand)
    (ho : o.op = .call { callee := .builtin .append, args := #[s, x], argTypes := #[22, 22] })
    (B : Nat) (v : Value) (n : Nat) (cs : List Value) (hs : a.eval s = v) (hown : Owned w B 71 3 v n cs)
    (vx : Value) (m : Nat) (news : List Value) (hx : a.eval x = vx) (hr : Reads w vx m 3 news) (h1 : ∀ u ∈ news, u.oneCell' = true)
    (h63 : n + m < 1099511627776) (hbase : B ≤ w.heap.size)
    (h : ∀ v' w', Owned w' B 71 3 v' (n + m) (cs ++ news) → w.grownBy w' (myBlock v) → (myBlock v' = myBlock v ∨ ∃ g', myBlock v' = some g' ∧ w.heap.size ≤ g') → wpList P ops Q rest (a.put o.dst v') w') : wpList P ops Q (o :: rest) a w := by
  subst hP
  obtain ⟨i0, hi, hz0, hz1, hz2⟩ := info_parts info71
  exact wpList_appendR w hgd s x 22 ho B 71 i0 ((.agg #[.int .i64 0, .int .i64 0, .int .i64 0])) 3 24 Tryz.underlying22 hi hz0 hz1 hz2 rfl (by decide) v n cs hs hown vx m news hx hr h1 (by simp only [maxLen]; omega) (by omega) hbase h
/-- make of a known number of elements, at []api.Edge. -/
theorem mk22 {P : Program} (hP : P = Tryz.prog) {w : World} {ops : Array Oper} {rest : List Oper} {o : Oper} {a : Act} {Q : Exit → Act → World → Prop} (hgd : o.guard = none) (x y : Operand)
    (ho : o.op = .makeSlice 22 x y) (n : Nat) (hx : a.eval x = .int .i64 n) (hy : a.eval y = .int .i64 n) (h63 : n < 1099511627776)
    (h : wpList P ops Q rest (a.put o.dst (.slice (some ⟨w.heap.size, 0, none⟩) n n)) (w.alloc (.cells (List.replicate n [.int .i64 0, .int .i64 0, .int .i64 0]).flatten.toArray 71))) : wpList P ops Q (o :: rest) a w := by
  subst hP
  obtain ⟨i0, hi, hz0, hz1, hz2⟩ := info_parts info71
  exact wpList_makeR w hgd x y 22 ho 71 i0 ((.agg #[.int .i64 0, .int .i64 0, .int .i64 0])) 3 24 Tryz.underlying22 hi hz0 hz1 hz2 rfl (by decide) n hx hy (by omega) (by omega) (by rw [show (List.replicate n ((.agg #[.int .i64 0, .int .i64 0, .int .i64 0]) : Value).cells.toList).flatten.toArray = (List.replicate n [.int .i64 0, .int .i64 0, .int .i64 0]).flatten.toArray by simp [Value.cells]]; exact h)
/-- clear over part of a block that is known whole, at []api.Edge. -/
theorem clr22 {P : Program} (hP : P = Tryz.prog) {w : World} {ops : Array Oper} {rest : List Oper} {o : Oper} {a : Act} {Q : Exit → Act → World → Prop} (hgd : o.guard = none) (x : Operand)
    (ho : o.op = .call { callee := .builtin .clear, args := #[x], argTypes := #[22] }) (g off n c : Nat) (e' : TypeId) (cs : List Value) (hx : a.eval x = .slice (some ⟨g, off, none⟩) n c) (hrow : Row w g e' cs) (hn : 0 < n) (hfit : off + n * 3 ≤ cs.length)
    (h : ∀ w' zs, zs.length = n * 3 → Row w' g e' (cs.take off ++ zs ++ cs.drop (off + n * 3)) → w.grownBy w' (some g) → wpList P ops Q rest (a.put o.dst (.tuple #[])) w') : wpList P ops Q (o :: rest) a w := by
  subst hP
  obtain ⟨i0, hi, hz0, hz1, hz2⟩ := info_parts info71
  exact wpList_clearR w hgd x 22 ho 71 i0 ((.agg #[.int .i64 0, .int .i64 0, .int .i64 0])) 3 Tryz.underlying22 hi hz0 rfl (by decide) (by simp [Value.cells, Value.oneCell']) g off n c e' cs hx hrow hn hfit (fun w' => h w' _ (by simp [Value.cells, List.length_flatten]))

/-- append of one element just laid in a block of its own, at [][]int. -/
theorem app32 {P : Program} (hP : P = Tryz.prog) {w : World} {ops : Array Oper} {rest : List Oper} {o : Oper} {a : Act} {Q : Exit → Act → World → Prop} (hgd : o.guard = none) (s x : Operand)
    (ho : o.op = .call { callee := .builtin .append, args := #[s, x], argTypes := #[32, 32] })
    (B : Nat) (v : Value) (n : Nat) (cs : List Value) (hs : a.eval s = v) (W : World) (hown : Owned W B 49 1 v n cs)
    (cur : Array Value) (e' : TypeId) (hw : w = W.alloc (.cells cur e')) (g : Nat) (hg : W.heap.size = g) (hx : a.eval x = .slice (some ⟨g, 0, none⟩) 1 1) (hcur : cur.size = 1) (h1 : ∀ u ∈ cur.toList, u.oneCell' = true)
    (h63 : n < 1099511627776) (hbase : B ≤ g)
    (h : ∀ v' w', Owned w' B 49 1 v' (n + 1) (cs ++ cur.toList) → W.grownBy w' (myBlock v) → (myBlock v' = myBlock v ∨ ∃ g', myBlock v' = some g' ∧ g ≤ g') → wpList P ops Q rest (a.put o.dst v') w') : wpList P ops Q (o :: rest) a w := by
  subst hP
  obtain ⟨i0, hi, hz0, hz1, hz2⟩ := info_parts info49
  exact wpList_append1 w hgd s x 32 ho B 49 i0 ((.slice none 0 0)) 1 24 Tryz.underlying32 hi hz0 hz1 hz2 rfl (by decide) v n cs hs W hown cur e' hw g hg hx hcur h1 (by omega) (by omega) hbase h
/-- append of several elements that lie somewhere, at [][]int. -/
theorem appn32 {P : Program} (hP : P = Tryz.prog) {w : World} {ops : Array Oper} {rest : List Oper} {o : Oper} {a : Act} {Q : Exit → Act → World → Prop} (hgd : o.guard = none) (s x : Operand)
    (ho : o.op = .call { callee := .builtin .append, args := #[s, x], argTypes := #[32, 32] })
    (B : Nat) (v : Value) (n : Nat) (cs : List Value) (hs : a.eval s = v) (hown : Owned w B 49 1 v n cs)
    (vx : Value) (m : Nat) (news : List Value) (hx : a.eval x = vx) (hr : Reads w vx m 1 news) (h1 : ∀ u ∈ news, u.oneCell' = true)
    (h63 : n + m < 1099511627776) (hbase : B ≤ w.heap.size)
    (h : ∀ v' w', Owned w' B 49 1 v' (n + m) (cs ++ news) → w.grownBy w' (myBlock v) → (myBlock v' = myBlock v ∨ ∃ g', myBlock v' = some g' ∧ w.heap.size ≤ g') → wpList P ops Q rest (a.put o.dst v') w') : wpList P ops Q (o :: rest) a w := by
  subst hP
  obtain ⟨i0, hi, hz0, hz1, hz2⟩ := info_parts info49
  exact wpList_appendR w hgd s x 32 ho B 49 i0 ((.slice none 0 0)) 1 24 Tryz.underlying32 hi hz0 hz1 hz2 rfl (by decide) v n cs hs hown vx m news hx hr h1 (by simp only [maxLen]; omega) (by omega) hbase h
/-- make of a known number of elements, at [][]int. -/
theorem mk32 {P : Program} (hP : P = Tryz.prog) {w : World} {ops : Array Oper} {rest : List Oper} {o : Oper} {a : Act} {Q : Exit → Act → World → Prop} (hgd : o.guard = none) (x y : Operand)
    (ho : o.op = .makeSlice 32 x y) (n : Nat) (hx : a.eval x = .int .i64 n) (hy : a.eval y = .int .i64 n) (h63 : n < 1099511627776)
    (h : wpList P ops Q rest (a.put o.dst (.slice (some ⟨w.heap.size, 0, none⟩) n n)) (w.alloc (.cells (List.replicate n (.slice none 0 0)).toArray 49))) : wpList P ops Q (o :: rest) a w := by
  subst hP
  obtain ⟨i0, hi, hz0, hz1, hz2⟩ := info_parts info49
  exact wpList_makeR w hgd x y 32 ho 49 i0 ((.slice none 0 0)) 1 24 Tryz.underlying32 hi hz0 hz1 hz2 rfl (by decide) n hx hy (by omega) (by omega) (by rw [show (List.replicate n ((.slice none 0 0) : Value).cells.toList).flatten.toArray = (List.replicate n (.slice none 0 0)).toArray by simp [Value.cells]]; exact h)
/-- clear over part of a block that is known whole, at [][]int. -/
theorem clr32 {P : Program} (hP : P = Tryz.prog) {w : World} {ops : Array Oper} {rest : List Oper} {o : Oper} {a : Act} {Q : Exit → Act → World → Prop} (hgd : o.guard = none) (x : Operand)
    (ho : o.op = .call { callee := .builtin .clear, args := #[x], argTypes := #[32] }) (g off n c : Nat) (e' : TypeId) (cs : List Value) (hx : a.eval x = .slice (some ⟨g, off, none⟩) n c) (hrow : Row w g e' cs) (hn : 0 < n) (hfit : off + n * 1 ≤ cs.length)
    (h : ∀ w' zs, zs.length = n * 1 → Row w' g e' (cs.take off ++ zs ++ cs.drop (off + n * 1)) → w.grownBy w' (some g) → wpList P ops Q rest (a.put o.dst (.tuple #[])) w') : wpList P ops Q (o :: rest) a w := by
  subst hP
  obtain ⟨i0, hi, hz0, hz1, hz2⟩ := info_parts info49
  exact wpList_clearR w hgd x 32 ho 49 i0 ((.slice none 0 0)) 1 Tryz.underlying32 hi hz0 rfl (by decide) (by simp [Value.cells, Value.oneCell']) g off n c e' cs hx hrow hn hfit (fun w' => h w' _ (by simp [Value.cells, List.length_flatten]))

/-- append of one element just laid in a block of its own, at [][]bool. -/
theorem app35 {P : Program} (hP : P = Tryz.prog) {w : World} {ops : Array Oper} {rest : List Oper} {o : Oper} {a : Act} {Q : Exit → Act → World → Prop} (hgd : o.guard = none) (s x : Operand)
    (ho : o.op = .call { callee := .builtin .append, args := #[s, x], argTypes := #[35, 35] })
    (B : Nat) (v : Value) (n : Nat) (cs : List Value) (hs : a.eval s = v) (W : World) (hown : Owned W B 73 1 v n cs)
    (cur : Array Value) (e' : TypeId) (hw : w = W.alloc (.cells cur e')) (g : Nat) (hg : W.heap.size = g) (hx : a.eval x = .slice (some ⟨g, 0, none⟩) 1 1) (hcur : cur.size = 1) (h1 : ∀ u ∈ cur.toList, u.oneCell' = true)
    (h63 : n < 1099511627776) (hbase : B ≤ g)
    (h : ∀ v' w', Owned w' B 73 1 v' (n + 1) (cs ++ cur.toList) → W.grownBy w' (myBlock v) → (myBlock v' = myBlock v ∨ ∃ g', myBlock v' = some g' ∧ g ≤ g') → wpList P ops Q rest (a.put o.dst v') w') : wpList P ops Q (o :: rest) a w := by
  subst hP
  obtain ⟨i0, hi, hz0, hz1, hz2⟩ := info_parts info73
  exact wpList_append1 w hgd s x 35 ho B 73 i0 ((.slice none 0 0)) 1 24 Tryz.underlying35 hi hz0 hz1 hz2 rfl (by decide) v n cs hs W hown cur e' hw g hg hx hcur h1 (by omega) (by omega) hbase h
/-- append of several elements that lie somewhere, at [][]bool. -/
theorem appn35 {P : Program} (hP : P = Tryz.prog) {w : World} {ops : Array Oper} {rest : List Oper} {o : Oper} {a : Act} {Q : Exit → Act → World → Prop} (hgd : o.guard = none) (s x : Operand)
    (ho : o.op = .call { callee := .builtin .append, args := #[s, x], argTypes := #[35, 35] })
    (B : Nat) (v : Value) (n : Nat) (cs : List Value) (hs : a.eval s = v) (hown : Owned w B 73 1 v n cs)
    (vx : Value) (m : Nat) (news : List Value) (hx : a.eval x = vx) (hr : Reads w vx m 1 news) (h1 : ∀ u ∈ news, u.oneCell' = true)
    (h63 : n + m < 1099511627776) (hbase : B ≤ w.heap.size)
    (h : ∀ v' w', Owned w' B 73 1 v' (n + m) (cs ++ news) → w.grownBy w' (myBlock v) → (myBlock v' = myBlock v ∨ ∃ g', myBlock v' = some g' ∧ w.heap.size ≤ g') → wpList P ops Q rest (a.put o.dst v') w') : wpList P ops Q (o :: rest) a w := by
  subst hP
  obtain ⟨i0, hi, hz0, hz1, hz2⟩ := info_parts info73
  exact wpList_appendR w hgd s x 35 ho B 73 i0 ((.slice none 0 0)) 1 24 Tryz.underlying35 hi hz0 hz1 hz2 rfl (by decide) v n cs hs hown vx m news hx hr h1 (by simp only [maxLen]; omega) (by omega) hbase h
/-- make of a known number of elements, at [][]bool. -/
theorem mk35 {P : Program} (hP : P = Tryz.prog) {w : World} {ops : Array Oper} {rest : List Oper} {o : Oper} {a : Act} {Q : Exit → Act → World → Prop} (hgd : o.guard = none) (x y : Operand)
    (ho : o.op = .makeSlice 35 x y) (n : Nat) (hx : a.eval x = .int .i64 n) (hy : a.eval y = .int .i64 n) (h63 : n < 1099511627776)
    (h : wpList P ops Q rest (a.put o.dst (.slice (some ⟨w.heap.size, 0, none⟩) n n)) (w.alloc (.cells (List.replicate n (.slice none 0 0)).toArray 73))) : wpList P ops Q (o :: rest) a w := by
  subst hP
  obtain ⟨i0, hi, hz0, hz1, hz2⟩ := info_parts info73
  exact wpList_makeR w hgd x y 35 ho 73 i0 ((.slice none 0 0)) 1 24 Tryz.underlying35 hi hz0 hz1 hz2 rfl (by decide) n hx hy (by omega) (by omega) (by rw [show (List.replicate n ((.slice none 0 0) : Value).cells.toList).flatten.toArray = (List.replicate n (.slice none 0 0)).toArray by simp [Value.cells]]; exact h)
/-- clear over part of a block that is known whole, at [][]bool. -/
theorem clr35 {P : Program} (hP : P = Tryz.prog) {w : World} {ops : Array Oper} {rest : List Oper} {o : Oper} {a : Act} {Q : Exit → Act → World → Prop} (hgd : o.guard = none) (x : Operand)
    (ho : o.op = .call { callee := .builtin .clear, args := #[x], argTypes := #[35] }) (g off n c : Nat) (e' : TypeId) (cs : List Value) (hx : a.eval x = .slice (some ⟨g, off, none⟩) n c) (hrow : Row w g e' cs) (hn : 0 < n) (hfit : off + n * 1 ≤ cs.length)
    (h : ∀ w' zs, zs.length = n * 1 → Row w' g e' (cs.take off ++ zs ++ cs.drop (off + n * 1)) → w.grownBy w' (some g) → wpList P ops Q rest (a.put o.dst (.tuple #[])) w') : wpList P ops Q (o :: rest) a w := by
  subst hP
  obtain ⟨i0, hi, hz0, hz1, hz2⟩ := info_parts info73
  exact wpList_clearR w hgd x 35 ho 73 i0 ((.slice none 0 0)) 1 Tryz.underlying35 hi hz0 rfl (by decide) (by simp [Value.cells, Value.oneCell']) g off n c e' cs hx hrow hn hfit (fun w' => h w' _ (by simp [Value.cells, List.length_flatten]))

/-- append of one element just laid in a block of its own, at [][]api.Step. -/
theorem app36 {P : Program} (hP : P = Tryz.prog) {w : World} {ops : Array Oper} {rest : List Oper} {o : Oper} {a : Act} {Q : Exit → Act → World → Prop} (hgd : o.guard = none) (s x : Operand)
    (ho : o.op = .call { callee := .builtin .append, args := #[s, x], argTypes := #[36, 36] })
    (B : Nat) (v : Value) (n : Nat) (cs : List Value) (hs : a.eval s = v) (W : World) (hown : Owned W B 46 1 v n cs)
    (cur : Array Value) (e' : TypeId) (hw : w = W.alloc (.cells cur e')) (g : Nat) (hg : W.heap.size = g) (hx : a.eval x = .slice (some ⟨g, 0, none⟩) 1 1) (hcur : cur.size = 1) (h1 : ∀ u ∈ cur.toList, u.oneCell' = true)
    (h63 : n < 1099511627776) (hbase : B ≤ g)
    (h : ∀ v' w', Owned w' B 46 1 v' (n + 1) (cs ++ cur.toList) → W.grownBy w' (myBlock v) → (myBlock v' = myBlock v ∨ ∃ g', myBlock v' = some g' ∧ g ≤ g') → wpList P ops Q rest (a.put o.dst v') w') : wpList P ops Q (o :: rest) a w := by
  subst hP
  obtain ⟨i0, hi, hz0, hz1, hz2⟩ := info_parts info46
  exact wpList_append1 w hgd s x 36 ho B 46 i0 ((.slice none 0 0)) 1 24 Tryz.underlying36 hi hz0 hz1 hz2 rfl (by decide) v n cs hs W hown cur e' hw g hg hx hcur h1 (by omega) (by omega) hbase h
/-- append of several elements that lie somewhere, at [][]api.Step. -/
theorem appn36 {P : Program} (hP : P = Tryz.prog) {w : World} {ops : Array Oper} {rest : List Oper} {o : Oper} {a : Act} {Q : Exit → Act → World → Prop} (hgd : o.guard = none) (s x : Operand)
    (ho : o.op = .call { callee := .builtin .append, args := #[s, x], argTypes := #[36, 36] })
    (B : Nat) (v : Value) (n : Nat) (cs : List Value) (hs : a.eval s = v) (hown : Owned w B 46 1 v n cs)
    (vx : Value) (m : Nat) (news : List Value) (hx : a.eval x = vx) (hr : Reads w vx m 1 news) (h1 : ∀ u ∈ news, u.oneCell' = true)
    (h63 : n + m < 1099511627776) (hbase : B ≤ w.heap.size)
    (h : ∀ v' w', Owned w' B 46 1 v' (n + m) (cs ++ news) → w.grownBy w' (myBlock v) → (myBlock v' = myBlock v ∨ ∃ g', myBlock v' = some g' ∧ w.heap.size ≤ g') → wpList P ops Q rest (a.put o.dst v') w') : wpList P ops Q (o :: rest) a w := by
  subst hP
  obtain ⟨i0, hi, hz0, hz1, hz2⟩ := info_parts info46
  exact wpList_appendR w hgd s x 36 ho B 46 i0 ((.slice none 0 0)) 1 24 Tryz.underlying36 hi hz0 hz1 hz2 rfl (by decide) v n cs hs hown vx m news hx hr h1 (by simp only [maxLen]; omega) (by omega) hbase h
/-- make of a known number of elements, at [][]api.Step. -/
theorem mk36 {P : Program} (hP : P = Tryz.prog) {w : World} {ops : Array Oper} {rest : List Oper} {o : Oper} {a : Act} {Q : Exit → Act → World → Prop} (hgd : o.guard = none) (x y : Operand)
    (ho : o.op = .makeSlice 36 x y) (n : Nat) (hx : a.eval x = .int .i64 n) (hy : a.eval y = .int .i64 n) (h63 : n < 1099511627776)
    (h : wpList P ops Q rest (a.put o.dst (.slice (some ⟨w.heap.size, 0, none⟩) n n)) (w.alloc (.cells (List.replicate n (.slice none 0 0)).toArray 46))) : wpList P ops Q (o :: rest) a w := by
  subst hP
  obtain ⟨i0, hi, hz0, hz1, hz2⟩ := info_parts info46
  exact wpList_makeR w hgd x y 36 ho 46 i0 ((.slice none 0 0)) 1 24 Tryz.underlying36 hi hz0 hz1 hz2 rfl (by decide) n hx hy (by omega) (by omega) (by rw [show (List.replicate n ((.slice none 0 0) : Value).cells.toList).flatten.toArray = (List.replicate n (.slice none 0 0)).toArray by simp [Value.cells]]; exact h)
/-- clear over part of a block that is known whole, at [][]api.Step. -/
theorem clr36 {P : Program} (hP : P = Tryz.prog) {w : World} {ops : Array Oper} {rest : List Oper} {o : Oper} {a : Act} {Q : Exit → Act → World → Prop} (hgd : o.guard = none) (x : Operand)
    (ho : o.op = .call { callee := .builtin .clear, args := #[x], argTypes := #[36] }) (g off n c : Nat) (e' : TypeId) (cs : List Value) (hx : a.eval x = .slice (some ⟨g, off, none⟩) n c) (hrow : Row w g e' cs) (hn : 0 < n) (hfit : off + n * 1 ≤ cs.length)
    (h : ∀ w' zs, zs.length = n * 1 → Row w' g e' (cs.take off ++ zs ++ cs.drop (off + n * 1)) → w.grownBy w' (some g) → wpList P ops Q rest (a.put o.dst (.tuple #[])) w') : wpList P ops Q (o :: rest) a w := by
  subst hP
  obtain ⟨i0, hi, hz0, hz1, hz2⟩ := info_parts info46
  exact wpList_clearR w hgd x 36 ho 46 i0 ((.slice none 0 0)) 1 Tryz.underlying36 hi hz0 rfl (by decide) (by simp [Value.cells, Value.oneCell']) g off n c e' cs hx hrow hn hfit (fun w' => h w' _ (by simp [Value.cells, List.length_flatten]))

/-- append of one element just laid in a block of its own, at [][]api.Edge. -/
theorem app37 {P : Program} (hP : P = Tryz.prog) {w : World} {ops : Array Oper} {rest : List Oper} {o : Oper} {a : Act} {Q : Exit → Act → World → Prop} (hgd : o.guard = none) (s x : Operand)
    (ho : o.op = .call { callee := .builtin .append, args := #[s, x], argTypes := #[37, 37] })
    (B : Nat) (v : Value) (n : Nat) (cs : List Value) (hs : a.eval s = v) (W : World) (hown : Owned W B 22 1 v n cs)
    (cur : Array Value) (e' : TypeId) (hw : w = W.alloc (.cells cur e')) (g : Nat) (hg : W.heap.size = g) (hx : a.eval x = .slice (some ⟨g, 0, none⟩) 1 1) (hcur : cur.size = 1) (h1 : ∀ u ∈ cur.toList, u.oneCell' = true)
    (h63 : n < 1099511627776) (hbase : B ≤ g)
    (h : ∀ v' w', Owned w' B 22 1 v' (n + 1) (cs ++ cur.toList) → W.grownBy w' (myBlock v) → (myBlock v' = myBlock v ∨ ∃ g', myBlock v' = some g' ∧ g ≤ g') → wpList P ops Q rest (a.put o.dst v') w') : wpList P ops Q (o :: rest) a w := by
  subst hP
  obtain ⟨i0, hi, hz0, hz1, hz2⟩ := info_parts info22
  exact wpList_append1 w hgd s x 37 ho B 22 i0 ((.slice none 0 0)) 1 24 Tryz.underlying37 hi hz0 hz1 hz2 rfl (by decide) v n cs hs W hown cur e' hw g hg hx hcur h1 (by omega) (by omega) hbase h
/-- append of several elements that lie somewhere, at [][]api.Edge. -/
theorem appn37 {P : Program} (hP : P = Tryz.prog) {w : World} {ops : Array Oper} {rest : List Oper} {o : Oper} {a : Act} {Q : Exit → Act → World → Prop} (hgd : o.guard = none) (s x : Operand)
    (ho : o.op = .call { callee := .builtin .append, args := #[s, x], argTypes := #[37, 37] })
    (B : Nat) (v : Value) (n : Nat) (cs : List Value) (hs : a.eval s = v) (hown : Owned w B 22 1 v n cs)
    (vx : Value) (m : Nat) (news : List Value) (hx : a.eval x = vx) (hr : Reads w vx m 1 news) (h1 : ∀ u ∈ news, u.oneCell' = true)
    (h63 : n + m < 1099511627776) (hbase : B ≤ w.heap.size)
    (h : ∀ v' w', Owned w' B 22 1 v' (n + m) (cs ++ news) → w.grownBy w' (myBlock v) → (myBlock v' = myBlock v ∨ ∃ g', myBlock v' = some g' ∧ w.heap.size ≤ g') → wpList P ops Q rest (a.put o.dst v') w') : wpList P ops Q (o :: rest) a w := by
  subst hP
  obtain ⟨i0, hi, hz0, hz1, hz2⟩ := info_parts info22
  exact wpList_appendR w hgd s x 37 ho B 22 i0 ((.slice none 0 0)) 1 24 Tryz.underlying37 hi hz0 hz1 hz2 rfl (by decide) v n cs hs hown vx m news hx hr h1 (by simp only [maxLen]; omega) (by omega) hbase h
/-- make of a known number of elements, at [][]api.Edge. -/
theorem mk37 {P : Program} (hP : P = Tryz.prog) {w : World} {ops : Array Oper} {rest : List Oper} {o : Oper} {a : Act} {Q : Exit → Act → World → Prop} (hgd : o.guard = none) (x y : Operand)
    (ho : o.op = .makeSlice 37 x y) (n : Nat) (hx : a.eval x = .int .i64 n) (hy : a.eval y = .int .i64 n) (h63 : n < 1099511627776)
    (h : wpList P ops Q rest (a.put o.dst (.slice (some ⟨w.heap.size, 0, none⟩) n n)) (w.alloc (.cells (List.replicate n (.slice none 0 0)).toArray 22))) : wpList P ops Q (o :: rest) a w := by
  subst hP
  obtain ⟨i0, hi, hz0, hz1, hz2⟩ := info_parts info22
  exact wpList_makeR w hgd x y 37 ho 22 i0 ((.slice none 0 0)) 1 24 Tryz.underlying37 hi hz0 hz1 hz2 rfl (by decide) n hx hy (by omega) (by omega) (by rw [show (List.replicate n ((.slice none 0 0) : Value).cells.toList).flatten.toArray = (List.replicate n (.slice none 0 0)).toArray by simp [Value.cells]]; exact h)
/-- clear over part of a block that is known whole, at [][]api.Edge. -/
theorem clr37 {P : Program} (hP : P = Tryz.prog) {w : World} {ops : Array Oper} {rest : List Oper} {o : Oper} {a : Act} {Q : Exit → Act → World → Prop} (hgd : o.guard = none) (x : Operand)
    (ho : o.op = .call { callee := .builtin .clear, args := #[x], argTypes := #[37] }) (g off n c : Nat) (e' : TypeId) (cs : List Value) (hx : a.eval x = .slice (some ⟨g, off, none⟩) n c) (hrow : Row w g e' cs) (hn : 0 < n) (hfit : off + n * 1 ≤ cs.length)
    (h : ∀ w' zs, zs.length = n * 1 → Row w' g e' (cs.take off ++ zs ++ cs.drop (off + n * 1)) → w.grownBy w' (some g) → wpList P ops Q rest (a.put o.dst (.tuple #[])) w') : wpList P ops Q (o :: rest) a w := by
  subst hP
  obtain ⟨i0, hi, hz0, hz1, hz2⟩ := info_parts info22
  exact wpList_clearR w hgd x 37 ho 22 i0 ((.slice none 0 0)) 1 Tryz.underlying37 hi hz0 rfl (by decide) (by simp [Value.cells, Value.oneCell']) g off n c e' cs hx hrow hn hfit (fun w' => h w' _ (by simp [Value.cells, List.length_flatten]))

/-- append of one element just laid in a block of its own, at [][][]int. -/
theorem app40 {P : Program} (hP : P = Tryz.prog) {w : World} {ops : Array Oper} {rest : List Oper} {o : Oper} {a : Act} {Q : Exit → Act → World → Prop} (hgd : o.guard = none) (s x : Operand)
    (ho : o.op = .call { callee := .builtin .append, args := #[s, x], argTypes := #[40, 40] })
    (B : Nat) (v : Value) (n : Nat) (cs : List Value) (hs : a.eval s = v) (W : World) (hown : Owned W B 32 1 v n cs)
    (cur : Array Value) (e' : TypeId) (hw : w = W.alloc (.cells cur e')) (g : Nat) (hg : W.heap.size = g) (hx : a.eval x = .slice (some ⟨g, 0, none⟩) 1 1) (hcur : cur.size = 1) (h1 : ∀ u ∈ cur.toList, u.oneCell' = true)
    (h63 : n < 1099511627776) (hbase : B ≤ g)
    (h : ∀ v' w', Owned w' B 32 1 v' (n + 1) (cs ++ cur.toList) → W.grownBy w' (myBlock v) → (myBlock v' = myBlock v ∨ ∃ g', myBlock v' = some g' ∧ g ≤ g') → wpList P ops Q rest (a.put o.dst v') w') : wpList P ops Q (o :: rest) a w := by
  subst hP
  obtain ⟨i0, hi, hz0, hz1, hz2⟩ := info_parts info32
  exact wpList_append1 w hgd s x 40 ho B 32 i0 ((.slice none 0 0)) 1 24 Tryz.underlying40 hi hz0 hz1 hz2 rfl (by decide) v n cs hs W hown cur e' hw g hg hx hcur h1 (by omega) (by omega) hbase h
/-- append of several elements that lie somewhere, at [][][]int. -/
theorem appn40 {P : Program} (hP : P = Tryz.prog) {w : World} {ops : Array Oper} {rest : List Oper} {o : Oper} {a : Act} {Q : Exit → Act → World → Prop} (hgd : o.guard = none) (s x : Operand)
    (ho : o.op = .call { callee := .builtin .append, args := #[s, x], argTypes := #[40, 40] })
    (B : Nat) (v : Value) (n : Nat) (cs : List Value) (hs : a.eval s = v) (hown : Owned w B 32 1 v n cs)
    (vx : Value) (m : Nat) (news : List Value) (hx : a.eval x = vx) (hr : Reads w vx m 1 news) (h1 : ∀ u ∈ news, u.oneCell' = true)
    (h63 : n + m < 1099511627776) (hbase : B ≤ w.heap.size)
    (h : ∀ v' w', Owned w' B 32 1 v' (n + m) (cs ++ news) → w.grownBy w' (myBlock v) → (myBlock v' = myBlock v ∨ ∃ g', myBlock v' = some g' ∧ w.heap.size ≤ g') → wpList P ops Q rest (a.put o.dst v') w') : wpList P ops Q (o :: rest) a w := by
  subst hP
  obtain ⟨i0, hi, hz0, hz1, hz2⟩ := info_parts info32
  exact wpList_appendR w hgd s x 40 ho B 32 i0 ((.slice none 0 0)) 1 24 Tryz.underlying40 hi hz0 hz1 hz2 rfl (by decide) v n cs hs hown vx m news hx hr h1 (by simp only [maxLen]; omega) (by omega) hbase h
/-- make of a known number of elements, at [][][]int. -/
theorem mk40 {P : Program} (hP : P = Tryz.prog) {w : World} {ops : Array Oper} {rest : List Oper} {o : Oper} {a : Act} {Q : Exit → Act → World → Prop} (hgd : o.guard = none) (x y : Operand)
    (ho : o.op = .makeSlice 40 x y) (n : Nat) (hx : a.eval x = .int .i64 n) (hy : a.eval y = .int .i64 n) (h63 : n < 1099511627776)
    (h : wpList P ops Q rest (a.put o.dst (.slice (some ⟨w.heap.size, 0, none⟩) n n)) (w.alloc (.cells (List.replicate n (.slice none 0 0)).toArray 32))) : wpList P ops Q (o :: rest) a w := by
  subst hP
  obtain ⟨i0, hi, hz0, hz1, hz2⟩ := info_parts info32
  exact wpList_makeR w hgd x y 40 ho 32 i0 ((.slice none 0 0)) 1 24 Tryz.underlying40 hi hz0 hz1 hz2 rfl (by decide) n hx hy (by omega) (by omega) (by rw [show (List.replicate n ((.slice none 0 0) : Value).cells.toList).flatten.toArray = (List.replicate n (.slice none 0 0)).toArray by simp [Value.cells]]; exact h)
/-- clear over part of a block that is known whole, at [][][]int. -/
theorem clr40 {P : Program} (hP : P = Tryz.prog) {w : World} {ops : Array Oper} {rest : List Oper} {o : Oper} {a : Act} {Q : Exit → Act → World → Prop} (hgd : o.guard = none) (x : Operand)
    (ho : o.op = .call { callee := .builtin .clear, args := #[x], argTypes := #[40] }) (g off n c : Nat) (e' : TypeId) (cs : List Value) (hx : a.eval x = .slice (some ⟨g, off, none⟩) n c) (hrow : Row w g e' cs) (hn : 0 < n) (hfit : off + n * 1 ≤ cs.length)
    (h : ∀ w' zs, zs.length = n * 1 → Row w' g e' (cs.take off ++ zs ++ cs.drop (off + n * 1)) → w.grownBy w' (some g) → wpList P ops Q rest (a.put o.dst (.tuple #[])) w') : wpList P ops Q (o :: rest) a w := by
  subst hP
  obtain ⟨i0, hi, hz0, hz1, hz2⟩ := info_parts info32
  exact wpList_clearR w hgd x 40 ho 32 i0 ((.slice none 0 0)) 1 Tryz.underlying40 hi hz0 rfl (by decide) (by simp [Value.cells, Value.oneCell']) g off n c e' cs hx hrow hn hfit (fun w' => h w' _ (by simp [Value.cells, List.length_flatten]))

/-- append of one element just laid in a block of its own, at [][][]api.Step. -/
theorem app42 {P : Program} (hP : P = Tryz.prog) {w : World} {ops : Array Oper} {rest : List Oper} {o : Oper} {a : Act} {Q : Exit → Act → World → Prop} (hgd : o.guard = none) (s x : Operand)
    (ho : o.op = .call { callee := .builtin .append, args := #[s, x], argTypes := #[42, 42] })
    (B : Nat) (v : Value) (n : Nat) (cs : List Value) (hs : a.eval s = v) (W : World) (hown : Owned W B 36 1 v n cs)
    (cur : Array Value) (e' : TypeId) (hw : w = W.alloc (.cells cur e')) (g : Nat) (hg : W.heap.size = g) (hx : a.eval x = .slice (some ⟨g, 0, none⟩) 1 1) (hcur : cur.size = 1) (h1 : ∀ u ∈ cur.toList, u.oneCell' = true)
    (h63 : n < 1099511627776) (hbase : B ≤ g)
    (h : ∀ v' w', Owned w' B 36 1 v' (n + 1) (cs ++ cur.toList) → W.grownBy w' (myBlock v) → (myBlock v' = myBlock v ∨ ∃ g', myBlock v' = some g' ∧ g ≤ g') → wpList P ops Q rest (a.put o.dst v') w') : wpList P ops Q (o :: rest) a w := by
  subst hP
  obtain ⟨i0, hi, hz0, hz1, hz2⟩ := info_parts info36
  exact wpList_append1 w hgd s x 42 ho B 36 i0 ((.slice none 0 0)) 1 24 Tryz.underlying42 hi hz0 hz1 hz2 rfl (by decide) v n cs hs W hown cur e' hw g hg hx hcur h1 (by omega) (by omega) hbase h
/-- append of several elements that lie somewhere, at [][][]api.Step. -/
theorem appn42 {P : Program} (hP : P = Tryz.prog) {w : World} {ops : Array Oper} {rest : List Oper} {o : Oper} {a : Act} {Q : Exit → Act → World → Prop} (hgd : o.guard = none) (s x : Operand)
    (ho : o.op = .call { callee := .builtin .append, args := #[s, x], argTypes := #[42, 42] })
    (B : Nat) (v : Value) (n : Nat) (cs : List Value) (hs : a.eval s = v) (hown : Owned w B 36 1 v n cs)
    (vx : Value) (m : Nat) (news : List Value) (hx : a.eval x = vx) (hr : Reads w vx m 1 news) (h1 : ∀ u ∈ news, u.oneCell' = true)
    (h63 : n + m < 1099511627776) (hbase : B ≤ w.heap.size)
    (h : ∀ v' w', Owned w' B 36 1 v' (n + m) (cs ++ news) → w.grownBy w' (myBlock v) → (myBlock v' = myBlock v ∨ ∃ g', myBlock v' = some g' ∧ w.heap.size ≤ g') → wpList P ops Q rest (a.put o.dst v') w') : wpList P ops Q (o :: rest) a w := by
  subst hP
  obtain ⟨i0, hi, hz0, hz1, hz2⟩ := info_parts info36
  exact wpList_appendR w hgd s x 42 ho B 36 i0 ((.slice none 0 0)) 1 24 Tryz.underlying42 hi hz0 hz1 hz2 rfl (by decide) v n cs hs hown vx m news hx hr h1 (by simp only [maxLen]; omega) (by omega) hbase h
/-- make of a known number of elements, at [][][]api.Step. -/
theorem mk42 {P : Program} (hP : P = Tryz.prog) {w : World} {ops : Array Oper} {rest : List Oper} {o : Oper} {a : Act} {Q : Exit → Act → World → Prop} (hgd : o.guard = none) (x y : Operand)
    (ho : o.op = .makeSlice 42 x y) (n : Nat) (hx : a.eval x = .int .i64 n) (hy : a.eval y = .int .i64 n) (h63 : n < 1099511627776)
    (h : wpList P ops Q rest (a.put o.dst (.slice (some ⟨w.heap.size, 0, none⟩) n n)) (w.alloc (.cells (List.replicate n (.slice none 0 0)).toArray 36))) : wpList P ops Q (o :: rest) a w := by
  subst hP
  obtain ⟨i0, hi, hz0, hz1, hz2⟩ := info_parts info36
  exact wpList_makeR w hgd x y 42 ho 36 i0 ((.slice none 0 0)) 1 24 Tryz.underlying42 hi hz0 hz1 hz2 rfl (by decide) n hx hy (by omega) (by omega) (by rw [show (List.replicate n ((.slice none 0 0) : Value).cells.toList).flatten.toArray = (List.replicate n (.slice none 0 0)).toArray by simp [Value.cells]]; exact h)
/-- clear over part of a block that is known whole, at [][][]api.Step. -/
theorem clr42 {P : Program} (hP : P = Tryz.prog) {w : World} {ops : Array Oper} {rest : List Oper} {o : Oper} {a : Act} {Q : Exit → Act → World → Prop} (hgd : o.guard = none) (x : Operand)
    (ho : o.op = .call { callee := .builtin .clear, args := #[x], argTypes := #[42] }) (g off n c : Nat) (e' : TypeId) (cs : List Value) (hx : a.eval x = .slice (some ⟨g, off, none⟩) n c) (hrow : Row w g e' cs) (hn : 0 < n) (hfit : off + n * 1 ≤ cs.length)
    (h : ∀ w' zs, zs.length = n * 1 → Row w' g e' (cs.take off ++ zs ++ cs.drop (off + n * 1)) → w.grownBy w' (some g) → wpList P ops Q rest (a.put o.dst (.tuple #[])) w') : wpList P ops Q (o :: rest) a w := by
  subst hP
  obtain ⟨i0, hi, hz0, hz1, hz2⟩ := info_parts info36
  exact wpList_clearR w hgd x 42 ho 36 i0 ((.slice none 0 0)) 1 Tryz.underlying42 hi hz0 rfl (by decide) (by simp [Value.cells, Value.oneCell']) g off n c e' cs hx hrow hn hfit (fun w' => h w' _ (by simp [Value.cells, List.length_flatten]))

/-! '==' and '!=' at edges and steps. -/
theorem heldFE : Tryz.prog.stoodInHeld 71 = false := by kernel_rfl
theorem fieldsE : (Tryz.prog.fieldsOf 71).toList.map (fun f => (f.name != "_", f.type, f.offset)) = ([0, 1, 2] : List Nat).map (fun o => (true, 3, o)) := by kernel_rfl
theorem guardE : Tryz.prog.eqGuardType Tryz.prog.depth 71 = false := by kernel_rfl
theorem underE : Tryz.prog.underlying 71 = some (.struct (Tryz.prog.fieldsOf 71)) := by kernel_rfl
theorem heldFS : Tryz.prog.stoodInHeld 85 = false := by kernel_rfl
theorem fieldsS : (Tryz.prog.fieldsOf 85).toList.map (fun f => (f.name != "_", f.type, f.offset)) = ([0, 1] : List Nat).map (fun o => (true, 3, o)) := by kernel_rfl
theorem guardS : Tryz.prog.eqGuardType Tryz.prog.depth 85 = false := by kernel_rfl
theorem underS : Tryz.prog.underlying 85 = some (.struct (Tryz.prog.fieldsOf 85)) := by kernel_rfl
theorem eqlE (a b c d e f : Int) (w : World) : (binOp .eql 71 (.agg #[.int .i64 a, .int .i64 b, .int .i64 c]) (.agg #[.int .i64 d, .int .i64 e, .int .i64 f])).run Tryz.prog w = .ok (.bool (a == d && (b == e && c == f))) w := by
  rw [run_eql_struct, run_eqlF w 71 3 Tryz.underlying3 underE heldFE [0, 1, 2] fieldsE _ _ (fun o => [a, b, c].getD o 0) (fun o => [d, e, f].getD o 0) (by intro o ho; simp at ho; rcases ho with rfl | rfl | rfl <;> rfl) (by intro o ho; simp at ho; rcases ho with rfl | rfl | rfl <;> rfl)]
  simp [Result.andThen]
theorem neqE (a b c d e f : Int) (w : World) : (binOp .neq 71 (.agg #[.int .i64 a, .int .i64 b, .int .i64 c]) (.agg #[.int .i64 d, .int .i64 e, .int .i64 f])).run Tryz.prog w = .ok (.bool (!(a == d && (b == e && c == f)))) w := by
  rw [run_neq_struct, run_eqlF w 71 3 Tryz.underlying3 underE heldFE [0, 1, 2] fieldsE _ _ (fun o => [a, b, c].getD o 0) (fun o => [d, e, f].getD o 0) (by intro o ho; simp at ho; rcases ho with rfl | rfl | rfl <;> rfl) (by intro o ho; simp at ho; rcases ho with rfl | rfl | rfl <;> rfl)]
  simp [Result.andThen]
theorem eqlS (a b d e : Int) (w : World) : (binOp .eql 85 (.agg #[.int .i64 a, .int .i64 b]) (.agg #[.int .i64 d, .int .i64 e])).run Tryz.prog w = .ok (.bool (a == d && b == e)) w := by
  rw [run_eql_struct, run_eqlF w 85 3 Tryz.underlying3 underS heldFS [0, 1] fieldsS _ _ (fun o => [a, b].getD o 0) (fun o => [d, e].getD o 0) (by intro o ho; simp at ho; rcases ho with rfl | rfl <;> rfl) (by intro o ho; simp at ho; rcases ho with rfl | rfl <;> rfl)]
  simp [Result.andThen]
theorem neqS (a b d e : Int) (w : World) : (binOp .neq 85 (.agg #[.int .i64 a, .int .i64 b]) (.agg #[.int .i64 d, .int .i64 e])).run Tryz.prog w = .ok (.bool (!(a == d && b == e))) w := by
  rw [run_neq_struct, run_eqlF w 85 3 Tryz.underlying3 underS heldFS [0, 1] fieldsS _ _ (fun o => [a, b].getD o 0) (fun o => [d, e].getD o 0) (by intro o ho; simp at ho; rcases ho with rfl | rfl <;> rfl) (by intro o ho; simp at ho; rcases ho with rfl | rfl <;> rfl)]
  simp [Result.andThen]
theorem guardRunE (op : BinOp) (x y : Operand) (xs ys : Array Value) (w : World) : (eqGuard op 71 x y (.agg xs) (.agg ys)).run Tryz.prog w = .ok () w := run_eqGuard_agg w op _ x y xs ys guardE
theorem guardRunS (op : BinOp) (x y : Operand) (xs ys : Array Value) (w : World) : (eqGuard op 85 x y (.agg xs) (.agg ys)).run Tryz.prog w = .ok () w := run_eqGuard_agg w op _ x y xs ys guardS
end Go.Proofs.YtkknklagoghljaaGreatDoor
