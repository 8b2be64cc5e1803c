/- Parts of the proof: ChPaint, ReplAny, ChAny, Frame. -/
import Derived.Test.YthpcjddcgdlilaaM1
import Derived.Test.YthpcjddcgdlilaaM2
import Derived.Test.YthpcjddcgdlilaaM3
import Derived.Test.YthpcjddcgdlilaaM4
import Derived.Test.YthpcjddcgdlilaaM5
import Derived.Test.YthpcjddcgdlilaaM6
import Derived.Test.YthpcjddcgdlilaaRows
import Derived.JoinedOf
import Derived.ProofKit
section
set_option linter.unusedVariables false
set_option linter.unusedSimpArgs false
set_option maxRecDepth 100000
set_option maxHeartbeats 4000000
open Go Go.Proofs Go.Ab
namespace Go.Ch
theorem fc_paints (raw : List Int) (site : Int) : FC Try.prog 8 [VL 1 intT raw, VI site] (app emp []) (VL 8 dopT (paintI raw site)) (app emp []) := by
 refine .go Try.f8 ?_
 refine .len 0 (fun hl0 => ?_)
 refine .loop (α := Nat × Int × (List DOp)) [.r [], .r [], .r [], .r [(1, X (Xl intT raw)), (2, X (Xmin (raw.length : Int) 12))], .le (.nR 5 8)] 81 (fun (i, o32c1, o) => ([(1, VI site), (5, .row 80 o.length), (6, .ptr 32 0), (14, VI (min (raw.length : Int) 12)), (15, VI (i : Int))], [(32, .box [VL 1 intT raw, VI o32c1]), (80, OR 8 dopT o)])) (fun (i, o32c1, o) => i ≤ min raw.length 12 ∧ o32c1 = 5 * (i : Int) ∧ o = paintL raw site i) (fun (i, o32c1, o) => 12 - i) (0, 0, []) ?_ ?_
 ·
  exact ⟨by omega, by omega, rfl⟩
 rintro ⟨i, o32c1, o⟩ I4 ih4
 try dsimp only at I4
 refine .br [.r []] (decide ((i : Int) < (min (raw.length : Int) 12))) (fun h4 => ?_) (fun h4 => ?_)
 ·
  (try simp only [decide_eq_true_eq, decide_eq_false_iff_not, Int.not_lt, Int.not_le] at h4)
  have hr : 0 < raw.length := by omega
  have u1 : rollU raw o32c1 = o32c1 + 1 := by (simp only [rollU_one hr]; try omega)
  have u2 : rollU raw (rollU raw o32c1) = o32c1 + 2 := by (simp only [rollU_one hr]; try omega)
  have u3 : rollU raw (rollU raw (rollU raw o32c1)) = o32c1 + 3 := by (simp only [rollU_one hr]; try omega)
  have u4 : rollU raw (rollU raw (rollU raw (rollU raw o32c1))) = o32c1 + 4 := by (simp only [rollU_one hr]; try omega)
  have u5 : rollU raw (rollU raw (rollU raw (rollU raw (rollU raw o32c1)))) = o32c1 + 5 := by (simp only [rollU_one hr]; try omega)
  have v0 := rollV_bd raw o32c1 (n := 2) (by decide)
  have v1 := rollV_bd raw (rollU raw o32c1) (n := 6) (by decide)
  have v2 := rollV_bd raw (rollU raw (rollU raw o32c1)) (n := 3) (by decide)
  have v3 := rollV_bd raw (rollU raw (rollU raw (rollU raw o32c1))) (n := 2) (by decide)
  have v4 := rollV_bd raw (rollU raw (rollU raw (rollU raw o32c1))) (n := 8) (by decide)
  have v5 := rollV_bd raw (rollU raw (rollU raw (rollU raw (rollU raw o32c1)))) (n := 3) (by decide)
  have hol : o.length = i := by rw [I4.2.2, paintL_len]
  refine .br [.r [], .r [(1, X (Xn ((i : Int) * 2))), (2, X (Xn (1 + ((i : Int) * 2)))), (4, X (Xc3 137 [(0, 32)] (fc_roll raw o32c1 2 (by omega) (by omega) (by omega)) X0)), (5, X (Xn ((1 + ((i : Int) * 2)) + (rollV raw o32c1 2)))), (8, X (Xc3 169 [(0, 32)] (fc_roll raw (rollU raw o32c1) 6 (by omega) (by omega) (by omega)) X0)), (9, X (Xn (1 + (rollV raw (rollU raw o32c1) 6))))], .r [(1, X (Xc3 217 [(0, 32)] (fc_roll raw (rollU raw (rollU raw o32c1)) 3 (by omega) (by omega) (by omega)) X0))]] ((rollV raw (rollU raw (rollU raw o32c1)) 3) == 0) (fun h7 => ?_) (fun h7 => ?_)
  ·
   (try simp only [beq_iff_eq, beq_eq_false_iff_ne, ne_eq] at h7)
   refine .back [.r [(2, X (Xc3 249 [(0, 32)] (fc_roll raw (rollU raw (rollU raw (rollU raw o32c1))) 2 (by omega) (by omega) (by omega)) X0)), (3, X (Xp strT [{ data := #[120] }, { data := #[121] }] (rollV raw (rollU raw (rollU raw (rollU raw o32c1))) 2))), (4, X (Xe strT [{ data := #[120] }, { data := #[121] }] (Int.toNat (rollV raw (rollU raw (rollU raw (rollU raw o32c1))) 2)))), (7, X (Xc3 289 [(0, 32)] (fc_roll raw (rollU raw (rollU raw (rollU raw (rollU raw o32c1)))) 3 (by omega) (by omega) (by omega)) X0)), (8, X (Xp strT [{ data := #[] }, { data := #[49] }, { data := #[50] }] (rollV raw (rollU raw (rollU raw (rollU raw (rollU raw o32c1)))) 3))), (9, X (Xe strT [{ data := #[] }, { data := #[49] }, { data := #[50] }] (Int.toNat (rollV raw (rollU raw (rollU raw (rollU raw (rollU raw o32c1)))) 3))))], .r [(3, X (rowC dopT [({ clock := ((1 + ((i : Int) * 2)) + (rollV raw o32c1 2)), site := site, kind := 1, itm := (1 + (rollV raw (rollU raw o32c1) 6)), prt := 0, plc := { data := #[] }, nm := ([{ data := #[120] }, { data := #[121] }].getD (Int.toNat (rollV raw (rollU raw (rollU raw (rollU raw o32c1))) 2)) default), vl := ([{ data := #[] }, { data := #[49] }, { data := #[50] }].getD (Int.toNat (rollV raw (rollU raw (rollU raw (rollU raw (rollU raw o32c1)))) 3)) default) } : DOp)] (Xap 8 dopT 80 o [({ clock := ((1 + ((i : Int) * 2)) + (rollV raw o32c1 2)), site := site, kind := 1, itm := (1 + (rollV raw (rollU raw o32c1) 6)), prt := 0, plc := { data := #[] }, nm := ([{ data := #[120] }, { data := #[121] }].getD (Int.toNat (rollV raw (rollU raw (rollU raw (rollU raw o32c1))) 2)) default), vl := ([{ data := #[] }, { data := #[49] }, { data := #[50] }].getD (Int.toNat (rollV raw (rollU raw (rollU raw (rollU raw (rollU raw o32c1)))) 3)) default) } : DOp)])))], .r [(0, X (Xn ((i : Int) + 1)))]] [(32, 32), (80, 80)] (ih4 ((i + 1), (rollU raw (rollU raw (rollU raw (rollU raw (rollU raw o32c1))))), (o ++ [({ clock := ((1 + ((i : Int) * 2)) + (rollV raw o32c1 2)), site := site, kind := 1, itm := (1 + (rollV raw (rollU raw o32c1) 6)), prt := 0, plc := { data := #[] }, nm := ([{ data := #[120] }, { data := #[121] }].getD (Int.toNat (rollV raw (rollU raw (rollU raw (rollU raw o32c1))) 2)) default), vl := ([{ data := #[] }, { data := #[49] }, { data := #[50] }].getD (Int.toNat (rollV raw (rollU raw (rollU raw (rollU raw (rollU raw o32c1)))) 3)) default) } : DOp)])) ?_ ?_)
   ·
    refine ⟨by omega, by omega, ?_⟩
    rw [paintL_succ, ← I4.2.2]; congr 1
    unfold paintO
    have e : 5 * (i : Int) = o32c1 := I4.2.1.symm
    rw [e]
    simp only [rollU_one hr, Int.add_assoc, Int.reduceAdd] at h7 ⊢
    first | (rw [if_pos h7]; rfl) | (rw [if_neg h7]; rfl)
   ·
    ((try dsimp only); omega)
  ·
   (try simp only [beq_iff_eq, beq_eq_false_iff_ne, ne_eq] at h7)
   refine .back [.r [(1, X (Xc3 241 [(0, 32)] (fc_roll raw (rollU raw (rollU raw (rollU raw o32c1))) 8 (by omega) (by omega) (by omega)) X0)), (2, X (Xn ((rollV raw (rollU raw (rollU raw (rollU raw o32c1))) 8) - 1))), (5, X (Xc3 273 [(0, 32)] (fc_roll raw (rollU raw (rollU raw (rollU raw (rollU raw o32c1)))) 3 (by omega) (by omega) (by omega)) X0)), (6, X (Xp strT [{ data := #[98] }, { data := #[99] }, { data := #[100] }] (rollV raw (rollU raw (rollU raw (rollU raw (rollU raw o32c1)))) 3))), (7, X (Xe strT [{ data := #[98] }, { data := #[99] }, { data := #[100] }] (Int.toNat (rollV raw (rollU raw (rollU raw (rollU raw (rollU raw o32c1)))) 3))))], .r [(3, X (rowC dopT [({ clock := ((1 + ((i : Int) * 2)) + (rollV raw o32c1 2)), site := site, kind := 0, itm := (1 + (rollV raw (rollU raw o32c1) 6)), prt := ((rollV raw (rollU raw (rollU raw (rollU raw o32c1))) 8) - 1), plc := ([{ data := #[98] }, { data := #[99] }, { data := #[100] }].getD (Int.toNat (rollV raw (rollU raw (rollU raw (rollU raw (rollU raw o32c1)))) 3)) default), nm := { data := #[] }, vl := { data := #[] } } : DOp)] (Xap 8 dopT 80 o [({ clock := ((1 + ((i : Int) * 2)) + (rollV raw o32c1 2)), site := site, kind := 0, itm := (1 + (rollV raw (rollU raw o32c1) 6)), prt := ((rollV raw (rollU raw (rollU raw (rollU raw o32c1))) 8) - 1), plc := ([{ data := #[98] }, { data := #[99] }, { data := #[100] }].getD (Int.toNat (rollV raw (rollU raw (rollU raw (rollU raw (rollU raw o32c1)))) 3)) default), nm := { data := #[] }, vl := { data := #[] } } : DOp)])))], .r [(0, X (Xn ((i : Int) + 1)))]] [(32, 32), (80, 80)] (ih4 ((i + 1), (rollU raw (rollU raw (rollU raw (rollU raw (rollU raw o32c1))))), (o ++ [({ clock := ((1 + ((i : Int) * 2)) + (rollV raw o32c1 2)), site := site, kind := 0, itm := (1 + (rollV raw (rollU raw o32c1) 6)), prt := ((rollV raw (rollU raw (rollU raw (rollU raw o32c1))) 8) - 1), plc := ([{ data := #[98] }, { data := #[99] }, { data := #[100] }].getD (Int.toNat (rollV raw (rollU raw (rollU raw (rollU raw (rollU raw o32c1)))) 3)) default), nm := { data := #[] }, vl := { data := #[] } } : DOp)])) ?_ ?_)
   ·
    refine ⟨by omega, by omega, ?_⟩
    rw [paintL_succ, ← I4.2.2]; congr 1
    unfold paintO
    have e : 5 * (i : Int) = o32c1 := I4.2.1.symm
    rw [e]
    simp only [rollU_one hr, Int.add_assoc, Int.reduceAdd] at h7 ⊢
    first | (rw [if_pos h7]; rfl) | (rw [if_neg h7]; rfl)
   ·
    ((try dsimp only); omega)
 ·
  (try simp only [decide_eq_true_eq, decide_eq_false_iff_not, Int.not_lt, Int.not_le] at h4)
  have e1 : ((paintI raw site) : List DOp) = o := by
   have hi : i = min raw.length 12 := by omega
   rw [I4.2.2, hi]; rfl
  exact .finE [.r [], .le (.fr 4 [(o.length : Nat) = (List.map dopT o).length] ⟨lm, trivial⟩)] [] (fun z0 => (VL 8 dopT z0, [])) (o : List DOp) ((paintI raw site) : List DOp) e1
end Go.Ch
end
section
set_option linter.unusedVariables false
set_option linter.unusedSimpArgs false
set_option maxRecDepth 100000
namespace Go.Ch
open Go Go.Ab

theorem ltO_asym {a b : DOp} (h : ltO a b) : ¬ ltO b a := by unfold ltO at *; omega
theorem getDO {l : List DOp} {i : Nat} (h : i < l.length) : l.getD i default = l[i] := by simp [List.getD, List.getElem?_eq_getElem h]
theorem srt_iff {l : List DOp} : l.Pairwise ltO ↔ ∀ i, i + 1 < l.length → ltO (l.getD i default) (l.getD (i + 1) default) := by
  rw [List.pairwise_iff_getElem]
  constructor
  · intro h i hi
    rw [getDO (by omega), getDO hi]
    exact h i (i + 1) _ _ (by omega)
  · intro h i j hi hj hij
    obtain ⟨d, rfl⟩ : ∃ d, j = i + 1 + d := ⟨j - i - 1, by omega⟩
    clear hij
    induction d with
    | zero => have := h i (by omega); rwa [getDO (by omega), getDO (by omega)] at this
    | succ d ih =>
      have h1 := ih (by omega)
      have h2 := h (i + 1 + d) (by omega)
      rw [getDO (by omega), getDO (by omega)] at h2
      exact ltO_trans h1 h2
theorem draw_iff {l : List DOp} : drawE l 0 = 0 ↔ (∀ o ∈ l, opE o = 0) ∧ l.Pairwise ltO := by
  rw [drawE_iff, srt_iff]
  constructor
  · rintro ⟨h1, h2⟩
    refine ⟨fun o ho => ?_, h2⟩
    obtain ⟨i, hi, rfl⟩ := List.mem_iff_getElem.1 ho
    rw [← getDO hi]; exact h1 i hi
  · rintro ⟨h1, h2⟩
    exact ⟨fun i hi => by rw [getDO hi]; exact h1 _ (List.getElem_mem hi), h2⟩
/-- Operations of which no two have one stamp. -/
structure UOk (U : List DOp) : Prop where
  op : ∀ o ∈ U, opE o = 0
  uq : ∀ a ∈ U, ∀ b ∈ U, ¬ ltO a b → ¬ ltO b a → a = b
structure VU (U z : List DOp) : Prop where
  srt : z.Pairwise ltO
  sub : ∀ o ∈ z, o ∈ U
theorem VU.ok {U z : List DOp} (hU : UOk U) (h : VU U z) : drawE z 0 = 0 := draw_iff.2 ⟨fun o ho => hU.op o (h.sub o ho), h.srt⟩
theorem VU.nil (U : List DOp) : VU U [] := ⟨.nil, fun o ho => by cases ho⟩
theorem VU.drop {U z : List DOp} (h : VU U z) (n : Nat) : VU U (z.drop n) := ⟨h.srt.sublist (List.drop_sublist _ _), fun o ho => h.sub o (List.mem_of_mem_drop ho)⟩
theorem union_mem {U : List DOp} (hU : UOk U) (x y : List DOp) : VU U x → VU U y → ∃ z, unionO x y = some z ∧ VU U z ∧ ∀ o, o ∈ z ↔ o ∈ x ∨ o ∈ y := by
  have tl : ∀ {a : DOp} {l : List DOp}, VU U (a :: l) → VU U l := fun h => ⟨(List.pairwise_cons.1 h.srt).2, fun o ho => h.sub o (List.mem_cons_of_mem _ ho)⟩
  have hd : ∀ {a : DOp} {l : List DOp}, VU U (a :: l) → ∀ o ∈ l, ltO a o := fun h => (List.pairwise_cons.1 h.srt).1
  have mk : ∀ {a : DOp} {z : List DOp}, a ∈ U → VU U z → (∀ o ∈ z, ltO a o) → VU U (a :: z) := fun h1 h2 h3 => ⟨List.pairwise_cons.2 ⟨h3, h2.srt⟩, fun o ho => by
    rcases List.mem_cons.1 ho with rfl | ho
    · exact h1
    · exact h2.sub o ho⟩
  induction x, y using unionO.induct with
  | case1 => intro h1 h2; exact ⟨[], by rw [unionO], h1, fun o => by simp⟩
  | case2 a l ih =>
    intro h1 h2
    obtain ⟨z, e, hz, hm⟩ := ih (tl h1) h2
    refine ⟨a :: z, by rw [unionO, e]; rfl, mk (h1.sub a List.mem_cons_self) hz (fun o ho => ?_), fun o => ?_⟩
    · rcases (hm o).1 ho with h | h
      · exact hd h1 o h
      · cases h
    · rw [List.mem_cons, List.mem_cons, hm]; simp
  | case3 b r ih =>
    intro h1 h2
    obtain ⟨z, e, hz, hm⟩ := ih h1 (tl h2)
    refine ⟨b :: z, by rw [unionO, e]; rfl, mk (h2.sub b List.mem_cons_self) hz (fun o ho => ?_), fun o => ?_⟩
    · rcases (hm o).1 ho with h | h
      · cases h
      · exact hd h2 o h
    · rw [List.mem_cons, List.mem_cons, hm]; simp
  | case4 a l b r hab ih =>
    intro h1 h2
    obtain ⟨z, e, hz, hm⟩ := ih (tl h1) h2
    refine ⟨a :: z, by rw [unionO, if_pos hab, e]; rfl, mk (h1.sub a List.mem_cons_self) hz (fun o ho => ?_), fun o => ?_⟩
    · rcases (hm o).1 ho with h | h
      · exact hd h1 o h
      · rcases List.mem_cons.1 h with rfl | h
        · exact hab
        · exact ltO_trans hab (hd h2 o h)
    · rw [List.mem_cons, hm, List.mem_cons (b := a), or_assoc]
  | case5 a l b r hab hba ih =>
    intro h1 h2
    obtain ⟨z, e, hz, hm⟩ := ih h1 (tl h2)
    refine ⟨b :: z, by rw [unionO, if_neg hab, if_pos hba, e]; rfl, mk (h2.sub b List.mem_cons_self) hz (fun o ho => ?_), fun o => ?_⟩
    · rcases (hm o).1 ho with h | h
      · rcases List.mem_cons.1 h with rfl | h
        · exact hba
        · exact ltO_trans hba (hd h1 o h)
      · exact hd h2 o h
    · rw [List.mem_cons, hm, List.mem_cons (b := b)]
      constructor
      · rintro (h | h | h)
        · exact .inr (.inl h)
        · exact .inl h
        · exact .inr (.inr h)
      · rintro (h | h | h)
        · exact .inr (.inl h)
        · exact .inl h
        · exact .inr (.inr h)
  | case6 l a r hab hba ih =>
    intro h1 h2
    obtain ⟨z, e, hz, hm⟩ := ih (tl h1) (tl h2)
    refine ⟨a :: z, by rw [unionO, if_neg hab, if_neg hba, if_pos rfl, e]; rfl, mk (h1.sub a List.mem_cons_self) hz (fun o ho => ?_), fun o => ?_⟩
    · rcases (hm o).1 ho with h | h
      · exact hd h1 o h
      · exact hd h2 o h
    · rw [List.mem_cons, hm, List.mem_cons, List.mem_cons]
      constructor
      · rintro (h | h | h)
        · exact .inl (.inl h)
        · exact .inl (.inr h)
        · exact .inr (.inr h)
      · rintro ((h | h) | (h | h))
        · exact .inl h
        · exact .inr (.inl h)
        · exact .inl h
        · exact .inr (.inr h)
  | case7 a l b r hab hba hne =>
    intro h1 h2
    exact absurd (hU.uq a (h1.sub a List.mem_cons_self) b (h2.sub b List.mem_cons_self) hab hba) hne
def uni (x y : List DOp) : List DOp := (unionO x y).getD []
theorem VU.uni {U x y : List DOp} (hU : UOk U) (hx : VU U x) (hy : VU U y) : VU U (uni x y) := by
  obtain ⟨z, e, hz, -⟩ := union_mem hU x y hx hy
  unfold Ch.uni; rw [e]; exact hz
theorem uni_some {U x y : List DOp} (hU : UOk U) (hx : VU U x) (hy : VU U y) : unionO x y = some (uni x y) := by
  obtain ⟨z, e, hz, -⟩ := union_mem hU x y hx hy
  unfold uni; rw [e]; rfl
theorem uni_mem {U x y : List DOp} (hU : UOk U) (hx : VU U x) (hy : VU U y) {o : DOp} : o ∈ uni x y ↔ o ∈ x ∨ o ∈ y := by
  obtain ⟨z, e, hz, hm⟩ := union_mem hU x y hx hy
  unfold uni; rw [e]; exact hm o
theorem srt_nodup {z : List DOp} (h : z.Pairwise ltO) : z.Nodup := h.imp (fun h e => by subst e; exact absurd h (by unfold ltO; omega))
theorem nodup_sub {α : Type} : ∀ (w its : List α), w.Nodup → (∀ x ∈ w, x ∈ its) → w.length ≤ its.length
  | [], its, _, _ => Nat.zero_le _
  | a :: w, its, hn, hs => by
    rw [List.nodup_cons] at hn
    obtain ⟨s, t, rfl⟩ := List.append_of_mem (hs a List.mem_cons_self)
    have := nodup_sub w (s ++ t) hn.2 (fun x hx => by
      have := hs x (List.mem_cons_of_mem _ hx)
      simp only [List.mem_append, List.mem_cons] at this ⊢
      rcases this with h | h | h
      · exact .inl h
      · subst h; exact absurd hx hn.1
      · exact .inr h)
    simp only [List.length_append, List.length_cons] at *; omega
theorem VU.len {U z : List DOp} (h : VU U z) : z.length ≤ U.length := nodup_sub z U (srt_nodup h.srt) h.sub
theorem VU.eq {U x y : List DOp} (hx : VU U x) (hy : VU U y) (h : ∀ o, o ∈ x ↔ o ∈ y) : x = y :=
  perm_strict (R := ltO) (fun a b => ltO_asym) ((List.perm_ext_iff_of_nodup (srt_nodup hx.srt) (srt_nodup hy.srt)).2 h) hx.srt hy.srt

/-! ### What is painted is valid -/
theorem byt_one (c : UInt8) : byt (chS c) 0 = c.toNat := rfl
theorem name_one {c : UInt8} (h : 97 ≤ c.toNat ∧ c.toNat ≤ 122) : nameGo (chS c) = true := by
  unfold nameGo
  have hs : (chS c).size = 1 := rfl
  rw [nmS, hs, byt_one, if_pos (by omega), if_neg (by unfold badC; omega), nmS, hs, if_neg (by omega)]
  simp; omega
theorem val_one {c : UInt8} (h : 32 ≤ c.toNat ∧ c.toNat ≤ 126) : valGo (chS c) = true := by
  unfold valGo
  have hs : (chS c).size = 1 := rfl
  rw [vlS, hs, byt_one, if_pos (by omega), if_neg (by omega), vlS, hs, if_neg (by omega)]
  simp
theorem paintO_ok (raw : List Int) {site : Int} (hs : 0 ≤ site ∧ site ≤ 1000) {i : Nat} (hi : i < 12) : opE (paintO raw site i) = 0 ∧ (paintO raw site i).site = site ∧ 1 + i * 2 ≤ (paintO raw site i).clock ∧ (paintO raw site i).clock ≤ 2 + i * 2 ∧ 1 ≤ (paintO raw site i).itm ∧ (paintO raw site i).itm ≤ 6 ∧ (paintO raw site i).prt ≤ 6 := by
  have v0 := rollV_bd raw (5 * i) (n := 2) (by decide)
  have v1 := rollV_bd raw (5 * i + 1) (n := 6) (by decide)
  have v3 := rollV_bd raw (5 * i + 3) (n := 2) (by decide)
  have v4 := rollV_bd raw (5 * i + 3) (n := 8) (by decide)
  have v5 := rollV_bd raw (5 * i + 4) (n := 3) (by decide)
  have hm : seq mt mt = true := seq_refl mt
  unfold paintO
  generalize rollV raw (5 * i + 3) 2 = r3 at *
  generalize rollV raw (5 * i + 3) 8 = r8 at *
  generalize rollV raw (5 * i + 4) 3 = r4 at *
  generalize rollV raw (5 * i + 1) 6 = r1 at *
  generalize rollV raw (5 * i) 2 = r0 at *
  split
  · have hn : nameGo (pkN r3) = true := by
      have : r3 = 0 ∨ r3 = 1 := by omega
      rcases this with rfl | rfl
      · exact name_one (c := 120) (by decide)
      · exact name_one (c := 121) (by decide)
    have hv : seq (pkV r4) mt = true ∨ valGo (pkV r4) = true := by
      have : r4 = 0 ∨ r4 = 1 ∨ r4 = 2 := by omega
      rcases this with rfl | rfl | rfl
      · exact .inl hm
      · exact .inr (val_one (c := 49) (by decide))
      · exact .inr (val_one (c := 50) (by decide))
    refine ⟨?_, rfl, by simp; omega, by simp; omega, by simp; omega, by simp; omega, by simp⟩
    unfold opE
    simp only []
    rw [if_neg (by omega), if_neg (by omega), if_neg (by rw [hm]; simp), if_neg (by omega), if_neg (by rw [hn]; simp), if_neg]
    rintro ⟨-, h1, h2⟩
    rcases hv with h | h
    · rw [h] at h1; cases h1
    · rw [h] at h2; cases h2
  · have hp : placeB (pkP r4) = true := by
      have : r4 = 0 ∨ r4 = 1 ∨ r4 = 2 := by omega
      rcases this with rfl | rfl | rfl
      · exact place_one (c := 98) (by decide) (by decide)
      · exact place_one (c := 99) (by decide) (by decide)
      · exact place_one (c := 100) (by decide) (by decide)
    refine ⟨?_, rfl, by simp; omega, by simp; omega, by simp; omega, by simp; omega, by simp; omega⟩
    unfold opE
    simp only []
    rw [if_neg (by omega), if_neg (by omega), if_neg (by rw [hm]; simp), if_neg (by omega), if_neg (by rw [hp]; simp), if_neg (by omega)]
theorem paint_mem {raw : List Int} {site : Int} {o : DOp} (h : o ∈ paintI raw site) : ∃ i, i < 12 ∧ o = paintO raw site i := by
  unfold paintI paintL at h
  obtain ⟨i, hi, rfl⟩ := List.mem_map.1 h
  rw [List.mem_range] at hi
  exact ⟨i, by omega, rfl⟩
theorem paint_site {raw : List Int} {site : Int} (hs : 0 ≤ site ∧ site ≤ 1000) {o : DOp} (h : o ∈ paintI raw site) : opE o = 0 ∧ o.site = site ∧ o.clock ≤ 24 ∧ 1 ≤ o.itm ∧ o.itm ≤ 6 ∧ o.prt ≤ 6 := by
  obtain ⟨i, hi, rfl⟩ := paint_mem h
  obtain ⟨h1, h2, h3, h4, h5, h6, h7⟩ := paintO_ok raw hs hi
  exact ⟨h1, h2, by omega, h5, h6, h7⟩
theorem paint_srt (raw : List Int) {site : Int} (hs : 0 ≤ site ∧ site ≤ 1000) : (paintI raw site).Pairwise ltO := by
  unfold paintI paintL
  rw [List.pairwise_map, List.pairwise_iff_getElem]
  intro i j hi hj hij
  simp only [List.length_range] at hi hj
  simp only [List.getElem_range]
  have h1 := paintO_ok raw hs (i := i) (by omega)
  have h2 := paintO_ok raw hs (i := j) (by omega)
  unfold ltO
  omega
theorem paint_uq {U : List DOp} (h : ∀ o ∈ U, ∃ raw site, (0 ≤ site ∧ site ≤ 1000) ∧ o ∈ paintI raw site ∧ ∀ b ∈ U, b.site = site → b ∈ paintI raw site) : UOk U := by
  refine ⟨fun o ho => ?_, fun a ha b hb h1 h2 => ?_⟩
  · obtain ⟨raw, site, hs, hm, -⟩ := h o ho
    exact (paint_site hs hm).1
  · obtain ⟨raw, site, hs, hm, hall⟩ := h a ha
    have ea := (paint_site hs hm).2.1
    have eb : b.site = site := by unfold ltO at h1 h2; omega
    have hb' := hall b hb eb
    have hp := paint_srt raw hs
    have := List.pairwise_iff_getElem.1 hp
    obtain ⟨i, hi, e1⟩ := List.mem_iff_getElem.1 hm
    obtain ⟨j, hj, e2⟩ := List.mem_iff_getElem.1 hb'
    rcases Nat.lt_trichotomy i j with k | k | k
    · have := this i j hi hj k; rw [e1, e2] at this; exact absurd this h1
    · subst k; rw [← e1, ← e2]
    · have := this j i hj hi k; rw [e1, e2] at this; exact absurd this h2
def U3 (p q r : List Int) : List DOp := paintI p 1 ++ (paintI q 2 ++ paintI r 3)
theorem U3_ok (p q r : List Int) : UOk (U3 p q r) := by
  have s1 : ∀ o ∈ paintI p 1, o.site = 1 := fun o ho => (paint_site (by decide) ho).2.1
  have s2 : ∀ o ∈ paintI q 2, o.site = 2 := fun o ho => (paint_site (by decide) ho).2.1
  have s3 : ∀ o ∈ paintI r 3, o.site = 3 := fun o ho => (paint_site (by decide) ho).2.1
  have key : ∀ b ∈ U3 p q r, (b.site = 1 → b ∈ paintI p 1) ∧ (b.site = 2 → b ∈ paintI q 2) ∧ (b.site = 3 → b ∈ paintI r 3) := fun b hb => by
    unfold U3 at hb
    simp only [List.mem_append] at hb
    rcases hb with h | h | h
    · have := s1 b h; exact ⟨fun _ => h, fun _ => by omega, fun _ => by omega⟩
    · have := s2 b h; exact ⟨fun _ => by omega, fun _ => h, fun _ => by omega⟩
    · have := s3 b h; exact ⟨fun _ => by omega, fun _ => by omega, fun _ => h⟩
  refine paint_uq fun o ho => ?_
  have ho' := ho
  unfold U3 at ho'
  simp only [List.mem_append] at ho'
  rcases ho' with h | h | h
  · exact ⟨p, 1, by decide, h, fun b hb e => (key b hb).1 e⟩
  · exact ⟨q, 2, by decide, h, fun b hb e => (key b hb).2.1 e⟩
  · exact ⟨r, 3, by decide, h, fun b hb e => (key b hb).2.2 e⟩
theorem U3_len (p q r : List Int) : (U3 p q r).length ≤ 36 := by
  have := paintI_len p 1; have := paintI_len q 2; have := paintI_len r 3
  unfold U3; simp only [List.length_append]; omega
theorem U3_1 (p q r : List Int) : VU (U3 p q r) (paintI p 1) := ⟨paint_srt p (by decide), fun o ho => by unfold U3; simp [ho]⟩
theorem U3_2 (p q r : List Int) : VU (U3 p q r) (paintI q 2) := ⟨paint_srt q (by decide), fun o ho => by unfold U3; simp [ho]⟩
theorem U3_3 (p q r : List Int) : VU (U3 p q r) (paintI r 3) := ⟨paint_srt r (by decide), fun o ho => by unfold U3; simp [ho]⟩
macro "vu" : tactic => `(tactic| repeat' (first | assumption | exact U3_ok _ _ _ | exact U3_1 _ _ _ | exact U3_2 _ _ _ | exact U3_3 _ _ _ | exact VU.nil _ | apply VU.drop | apply VU.uni))
theorem any_eq {p q r : List Int} {t : List DOp} (ht : VU (U3 p q r) t) : uni (uni (uni [] (paintI p 1)) (paintI q 2)) (paintI r 3) = uni (paintI p 1) (uni (paintI q 2) (uni (paintI r 3) t)) := by
  have hU := U3_ok p q r
  refine VU.eq (U := U3 p q r) (by vu) (by vu) (fun o => ?_)
  rw [uni_mem hU (by vu) (by vu), uni_mem hU (by vu) (by vu), uni_mem hU (by vu) (by vu), uni_mem hU (by vu) (by vu), uni_mem hU (by vu) (by vu), uni_mem hU (by vu) (by vu)]
  have h1 : o ∈ t → o ∈ paintI p 1 ∨ o ∈ paintI q 2 ∨ o ∈ paintI r 3 := fun h => by have := ht.sub o h; unfold U3 at this; simpa using this
  constructor
  · rintro (((h | h) | h) | h)
    · cases h
    · exact .inl h
    · exact .inr (.inl h)
    · exact .inr (.inr (.inl h))
  · rintro (h | h | h | h)
    · exact .inl (.inl (.inr h))
    · exact .inl (.inr h)
    · exact .inr h
    · rcases h1 h with h | h | h
      · exact .inl (.inl (.inr h))
      · exact .inl (.inr h)
      · exact .inr h
abbrev noO : List DOp := []
end Go.Ch
end
section
set_option linter.unusedVariables false
set_option linter.unusedSimpArgs false
set_option maxRecDepth 100000
set_option maxHeartbeats 4000000
open Go Go.Proofs Go.Ab
namespace Go.Ch
theorem fc_joinU (U : List DOp) (a b : List DOp) (hU : UOk U) (hu : U.length ≤ 1000) (ha : VU U a) (hb : VU U b) : FC Try.prog 9 [VL 8 dopT a, VL 8 dopT b] (app emp []) (.tup [VL 8 dopT (uni a b), VI 0]) (app emp []) := by
  have l1 := ha.len
  have l2 := hb.len
  have h := fc_djoin a b (by omega)
  have e1 : (if drawE a 0 = 0 ∧ drawE b 0 = 0 then (unionO a b).getD [] else []) = uni a b := by rw [if_pos ⟨ha.ok hU, hb.ok hU⟩]; rfl
  have e2 : (if drawE a 0 ≠ 0 then drawE a 0 else if drawE b 0 ≠ 0 then drawE b 0 else if (unionO a b).isSome then 0 else 6) = 0 := by rw [ha.ok hU, hb.ok hU, uni_some hU ha hb]; rfl
  rw [e1, e2] at h
  exact h

theorem fc_anyOrder (p q r : List Int) (which : Int) : FC Try.prog 3 [VL 1 intT p, VL 1 intT q, VL 1 intT r, VI which] (app emp []) (VB true) (app emp []) := by
 refine .go Try.f3 ?_
 refine .len 0 (fun hl0 => ?_)
 refine .len 1 (fun hl1 => ?_)
 refine .len 2 (fun hl2 => ?_)
 obtain ⟨U, hUe⟩ : ∃ U, U = U3 p q r := ⟨_, rfl⟩
 have hU : UOk U := hUe ▸ U3_ok p q r
 have hul : U.length ≤ 1000 := by rw [hUe]; have := U3_len p q r; omega
 have hA : VU U (paintI p 1) := hUe ▸ U3_1 p q r
 have hB : VU U (paintI q 2) := hUe ▸ U3_2 p q r
 have hC : VU U (paintI r 3) := hUe ▸ U3_3 p q r
 have hlA := hA.len
 have hlB := hB.len
 have hlC := hC.len
 have hkb := withinI_bd which (lo := 0) (hi := 5) (by decide)
 refine .loop (α := (List DOp) × Nat) [.r [], .r [(0, X (Xc0 fc_draws X0))], .f, .r [(1, X (Xc1 32 (fc_paints p 1) X0)), (3, X (Xc1 48 (fc_paints q 2) X0)), (5, X (Xc1 64 (fc_paints r 3) X0))], .r [], .r [], .r [], .u, .r [], .t, .r [], .le (.nL 10 8), .r [(2, X (Xa (Xc ((0:Int) ≤ 0)) (Xc (0 < ((3 : Nat) : Int))))), (4, X (Xc1 184 (fc_joinU U [] (paintI p 1) hU hul (by vu) (by vu)) X0))], .r [], .f, .r [], .u, .r [], .t, .r [], .r [(2, X (Xa (Xc ((0:Int) ≤ 1)) (Xc (1 < ((3 : Nat) : Int))))), (4, X (Xc1 320 (fc_joinU U (uni [] (paintI p 1)) (paintI q 2) hU hul (by vu) (by vu)) X0))], .r [], .f, .r [], .u, .r [], .t, .r [], .r [(2, X (Xa (Xc ((0:Int) ≤ 2)) (Xc (2 < ((3 : Nat) : Int))))), (4, X (Xc1 456 (fc_joinU U (uni (uni [] (paintI p 1)) (paintI q 2)) (paintI r 3) hU hul (by vu) (by vu)) X0))], .r [], .f, .r [], .u, .r [], .f, .r [(1, X (Xc0 (fc_within which 0 5 (by omega)) X0))], .r [], .le (.nL 11 8)] 576 (fun (t, i) => ([(9, .ptr 80 0), (10, VL 8 dopT (uni (uni (uni [] (paintI p 1)) (paintI q 2)) (paintI r 3))), (11, VL 8 dopT t), (14, VI (withinI which 0 5)), (48, VI (i : Int))], [(80, .box [VL 8 dopT (paintI p 1), VL 8 dopT (paintI q 2), VL 8 dopT (paintI r 3)])])) (fun (t, i) => i ≤ 6 ∧ VU U t) (fun (t, i) => 6 - i) (noO, 0) ?_ ?_
 ·
  exact ⟨by omega, VU.nil _⟩
 rintro ⟨t, i⟩ I15 ih15
 try dsimp only at I15
 have ht : VU U t := I15.2
 refine .br [.r []] (decide ((i : Int) < 6)) (fun h15 => ?_) (fun h15 => ?_)
 ·
  (try simp only [decide_eq_true_eq, decide_eq_false_iff_not, Int.not_lt, Int.not_le] at h15)
  have hm1 : 0 ≤ (i : Int) * (1 + (withinI which 0 5) % 2) := Int.mul_nonneg (by omega) (by omega)
  have hm2 : (i : Int) * (1 + (withinI which 0 5) % 2) ≤ 6 * 2 := Int.mul_le_mul (by omega) (by omega) (by omega) (by omega)
  have hj : (((withinI which 0 5) * 5) + ((i : Int) * (1 + ((withinI which 0 5) % 2)))) % 3 = 0 ∨ (((withinI which 0 5) * 5) + ((i : Int) * (1 + ((withinI which 0 5) % 2)))) % 3 = 1 ∨ (((withinI which 0 5) * 5) + ((i : Int) * (1 + ((withinI which 0 5) % 2)))) % 3 = 2 := by omega
  refine .mid [.r []] ?_
  rcases hj with hj | hj | hj
  ·
   refine .br [.r [(1, X (Xn ((withinI which 0 5) * 5))), (4, X (Xrem (withinI which 0 5) 2)), (5, X (Xn (1 + ((withinI which 0 5) % 2)))), (6, X (Xn ((i : Int) * (1 + ((withinI which 0 5) % 2))))), (7, X (Xn (((withinI which 0 5) * 5) + ((i : Int) * (1 + ((withinI which 0 5) % 2)))))), (8, X (Xrem (((withinI which 0 5) * 5) + ((i : Int) * (1 + ((withinI which 0 5) % 2)))) 3)), (9, X (Xlit 80 0 1 3 ((((withinI which 0 5) * 5) + ((i : Int) * (1 + ((withinI which 0 5) % 2)))) % 3) 0) ⟨hj, (by first | omega | (simp; omega) | (simp; done) | assumption)⟩)], .r [(1, X (Xl dopT (paintI p 1))), (2, X (Xquo ((paintI p 1).length : Int) 2))], .r [(1, X (Xrem (i : Int) 2))]] (((i : Int) % 2) == 0) (fun h19 => ?_) (fun h19 => ?_)
   ·
    (try simp only [beq_iff_eq, beq_eq_false_iff_ne, ne_eq] at h19)
    refine .back [.r [(2, X (Xsd dopT 8 (paintI p 1) (((paintI p 1).length : Int) / 2)))], .r [(2, X (Xc1 800 (fc_joinU U t ((paintI p 1).drop (((paintI p 1).length) / 2)) hU hul (by vu) (by vu)) X0))], .r [], .f, .r [(0, X (Xn ((i : Int) + 1)))]] [(80, 80)] (ih15 ((uni t ((paintI p 1).drop (((paintI p 1).length) / 2))), (i + 1)) ?_ ?_)
    ·
     exact ⟨by omega, by vu⟩
    ·
     ((try dsimp only); omega)
   ·
    (try simp only [beq_iff_eq, beq_eq_false_iff_ne, ne_eq] at h19)
    refine .back [.r [(2, X (Xc1 768 (fc_joinU U t (paintI p 1) hU hul (by vu) (by vu)) X0))], .r [], .f, .r [(0, X (Xn ((i : Int) + 1)))]] [(80, 80)] (ih15 ((uni t (paintI p 1)), (i + 1)) ?_ ?_)
    ·
     exact ⟨by omega, by vu⟩
    ·
     ((try dsimp only); omega)
  ·
   refine .br [.r [(1, X (Xn ((withinI which 0 5) * 5))), (4, X (Xrem (withinI which 0 5) 2)), (5, X (Xn (1 + ((withinI which 0 5) % 2)))), (6, X (Xn ((i : Int) * (1 + ((withinI which 0 5) % 2))))), (7, X (Xn (((withinI which 0 5) * 5) + ((i : Int) * (1 + ((withinI which 0 5) % 2)))))), (8, X (Xrem (((withinI which 0 5) * 5) + ((i : Int) * (1 + ((withinI which 0 5) % 2)))) 3)), (9, X (Xlit 80 0 1 3 ((((withinI which 0 5) * 5) + ((i : Int) * (1 + ((withinI which 0 5) % 2)))) % 3) 1) ⟨hj, (by first | omega | (simp; omega) | (simp; done) | assumption)⟩)], .r [(1, X (Xl dopT (paintI q 2))), (2, X (Xquo ((paintI q 2).length : Int) 2))], .r [(1, X (Xrem (i : Int) 2))]] (((i : Int) % 2) == 0) (fun h19 => ?_) (fun h19 => ?_)
   ·
    (try simp only [beq_iff_eq, beq_eq_false_iff_ne, ne_eq] at h19)
    refine .back [.r [(2, X (Xsd dopT 8 (paintI q 2) (((paintI q 2).length : Int) / 2)))], .r [(2, X (Xc1 800 (fc_joinU U t ((paintI q 2).drop (((paintI q 2).length) / 2)) hU hul (by vu) (by vu)) X0))], .r [], .f, .r [(0, X (Xn ((i : Int) + 1)))]] [(80, 80)] (ih15 ((uni t ((paintI q 2).drop (((paintI q 2).length) / 2))), (i + 1)) ?_ ?_)
    ·
     exact ⟨by omega, by vu⟩
    ·
     ((try dsimp only); omega)
   ·
    (try simp only [beq_iff_eq, beq_eq_false_iff_ne, ne_eq] at h19)
    refine .back [.r [(2, X (Xc1 768 (fc_joinU U t (paintI q 2) hU hul (by vu) (by vu)) X0))], .r [], .f, .r [(0, X (Xn ((i : Int) + 1)))]] [(80, 80)] (ih15 ((uni t (paintI q 2)), (i + 1)) ?_ ?_)
    ·
     exact ⟨by omega, by vu⟩
    ·
     ((try dsimp only); omega)
  ·
   refine .br [.r [(1, X (Xn ((withinI which 0 5) * 5))), (4, X (Xrem (withinI which 0 5) 2)), (5, X (Xn (1 + ((withinI which 0 5) % 2)))), (6, X (Xn ((i : Int) * (1 + ((withinI which 0 5) % 2))))), (7, X (Xn (((withinI which 0 5) * 5) + ((i : Int) * (1 + ((withinI which 0 5) % 2)))))), (8, X (Xrem (((withinI which 0 5) * 5) + ((i : Int) * (1 + ((withinI which 0 5) % 2)))) 3)), (9, X (Xlit 80 0 1 3 ((((withinI which 0 5) * 5) + ((i : Int) * (1 + ((withinI which 0 5) % 2)))) % 3) 2) ⟨hj, (by first | omega | (simp; omega) | (simp; done) | assumption)⟩)], .r [(1, X (Xl dopT (paintI r 3))), (2, X (Xquo ((paintI r 3).length : Int) 2))], .r [(1, X (Xrem (i : Int) 2))]] (((i : Int) % 2) == 0) (fun h19 => ?_) (fun h19 => ?_)
   ·
    (try simp only [beq_iff_eq, beq_eq_false_iff_ne, ne_eq] at h19)
    refine .back [.r [(2, X (Xsd dopT 8 (paintI r 3) (((paintI r 3).length : Int) / 2)))], .r [(2, X (Xc1 800 (fc_joinU U t ((paintI r 3).drop (((paintI r 3).length) / 2)) hU hul (by vu) (by vu)) X0))], .r [], .f, .r [(0, X (Xn ((i : Int) + 1)))]] [(80, 80)] (ih15 ((uni t ((paintI r 3).drop (((paintI r 3).length) / 2))), (i + 1)) ?_ ?_)
    ·
     exact ⟨by omega, by vu⟩
    ·
     ((try dsimp only); omega)
   ·
    (try simp only [beq_iff_eq, beq_eq_false_iff_ne, ne_eq] at h19)
    refine .back [.r [(2, X (Xc1 768 (fc_joinU U t (paintI r 3) hU hul (by vu) (by vu)) X0))], .r [], .f, .r [(0, X (Xn ((i : Int) + 1)))]] [(80, 80)] (ih15 ((uni t (paintI r 3)), (i + 1)) ?_ ?_)
    ·
     exact ⟨by omega, by vu⟩
    ·
     ((try dsimp only); omega)
 ·
  (try simp only [decide_eq_true_eq, decide_eq_false_iff_not, Int.not_lt, Int.not_le] at h15)
  have hEq := any_eq (p := p) (q := q) (r := r) (t := t) (hUe ▸ ht)
  have hV : VU U (uni (paintI p 1) (uni (paintI q 2) (uni (paintI r 3) t))) := by vu
  have hd := hV.ok hU
  have hl1 := hV.len
  have hl2 : (uni (uni (uni [] (paintI p 1)) (paintI q 2)) (paintI r 3)).length ≤ 1000 := by rw [hEq]; omega
  have e1 : ((((((drawE (uni (uni (uni [] (paintI p 1)) (paintI q 2)) (paintI r 3)) 0) == 0) && ((drawE (uni (paintI p 1) (uni (paintI q 2) (uni (paintI r 3) t))) 0) == 0)) && (sameOs (uni (uni (uni [] (paintI p 1)) (paintI q 2)) (paintI r 3)) (uni (paintI p 1) (uni (paintI q 2) (uni (paintI r 3) t))))) && (sameIs (if drawE (uni (uni (uni [] (paintI p 1)) (paintI q 2)) (paintI r 3)) 0 = 0 then rawI (uni (uni (uni [] (paintI p 1)) (paintI q 2)) (paintI r 3)) else []) (if drawE (uni (paintI p 1) (uni (paintI q 2) (uni (paintI r 3) t))) 0 = 0 then rawI (uni (paintI p 1) (uni (paintI q 2) (uni (paintI r 3) t))) else []))) : Bool) = true := by
   rw [hEq]; simp [hd, sameOs_refl, sameIs_refl]
  exact .finE [.r [], .u, .r [], .t, .r [], .r [(2, X (Xa (Xc ((0:Int) ≤ 2)) (Xc (2 < ((3 : Nat) : Int))))), (5, X (Xc1 656 (fc_joinU U (paintI r 3) t hU hul (by vu) (by vu)) X0))], .r [], .f, .r [], .u, .r [], .t, .r [], .r [(2, X (Xa (Xc ((0:Int) ≤ 1)) (Xc (1 < ((3 : Nat) : Int))))), (5, X (Xc1 800 (fc_joinU U (paintI q 2) (uni (paintI r 3) t) hU hul (by vu) (by vu)) X0))], .r [], .f, .r [], .u, .r [], .t, .r [], .r [(2, X (Xa (Xc ((0:Int) ≤ 0)) (Xc (0 < ((3 : Nat) : Int))))), (5, X (Xc1 944 (fc_joinU U (paintI p 1) (uni (paintI q 2) (uni (paintI r 3) t)) hU hul (by vu) (by vu)) X0))], .r [], .f, .r [], .u, .r [], .f, .r [(1, X (Xc1 1040 (fc_items (uni (uni (uni [] (paintI p 1)) (paintI q 2)) (paintI r 3)) (by omega)) X0))], .r [(1, X (Xc1 1096 (fc_items (uni (paintI p 1) (uni (paintI q 2) (uni (paintI r 3) t))) (by omega)) X0))], .r [(4, Xv 1 ((drawE (uni (uni (uni [] (paintI p 1)) (paintI q 2)) (paintI r 3)) 0) == 0) X0), (5, X (Xk ((drawE (uni (uni (uni [] (paintI p 1)) (paintI q 2)) (paintI r 3)) 0) == 0))), (9, Xv 2 (((drawE (uni (uni (uni [] (paintI p 1)) (paintI q 2)) (paintI r 3)) 0) == 0) && ((drawE (uni (paintI p 1) (uni (paintI q 2) (uni (paintI r 3) t))) 0) == 0)) (Xc0 (fc_sameOs (uni (uni (uni [] (paintI p 1)) (paintI q 2)) (paintI r 3)) (uni (paintI p 1) (uni (paintI q 2) (uni (paintI r 3) t)))) X0)), (10, X (Xk (((drawE (uni (uni (uni [] (paintI p 1)) (paintI q 2)) (paintI r 3)) 0) == 0) && ((drawE (uni (paintI p 1) (uni (paintI q 2) (uni (paintI r 3) t))) 0) == 0)))), (14, Xv 2 ((((drawE (uni (uni (uni [] (paintI p 1)) (paintI q 2)) (paintI r 3)) 0) == 0) && ((drawE (uni (paintI p 1) (uni (paintI q 2) (uni (paintI r 3) t))) 0) == 0)) && (sameOs (uni (uni (uni [] (paintI p 1)) (paintI q 2)) (paintI r 3)) (uni (paintI p 1) (uni (paintI q 2) (uni (paintI r 3) t))))) (Xc0 (fc_sameIs (if drawE (uni (uni (uni [] (paintI p 1)) (paintI q 2)) (paintI r 3)) 0 = 0 then rawI (uni (uni (uni [] (paintI p 1)) (paintI q 2)) (paintI r 3)) else []) (if drawE (uni (paintI p 1) (uni (paintI q 2) (uni (paintI r 3) t))) 0 = 0 then rawI (uni (paintI p 1) (uni (paintI q 2) (uni (paintI r 3) t))) else [])) X0)), (15, X (Xk ((((drawE (uni (uni (uni [] (paintI p 1)) (paintI q 2)) (paintI r 3)) 0) == 0) && ((drawE (uni (paintI p 1) (uni (paintI q 2) (uni (paintI r 3) t))) 0) == 0)) && (sameOs (uni (uni (uni [] (paintI p 1)) (paintI q 2)) (paintI r 3)) (uni (paintI p 1) (uni (paintI q 2) (uni (paintI r 3) t)))))))]] [] (fun z0 => (VB z0, [])) ((((((drawE (uni (uni (uni [] (paintI p 1)) (paintI q 2)) (paintI r 3)) 0) == 0) && ((drawE (uni (paintI p 1) (uni (paintI q 2) (uni (paintI r 3) t))) 0) == 0)) && (sameOs (uni (uni (uni [] (paintI p 1)) (paintI q 2)) (paintI r 3)) (uni (paintI p 1) (uni (paintI q 2) (uni (paintI r 3) t))))) && (sameIs (if drawE (uni (uni (uni [] (paintI p 1)) (paintI q 2)) (paintI r 3)) 0 = 0 then rawI (uni (uni (uni [] (paintI p 1)) (paintI q 2)) (paintI r 3)) else []) (if drawE (uni (paintI p 1) (uni (paintI q 2) (uni (paintI r 3) t))) 0 = 0 then rawI (uni (paintI p 1) (uni (paintI q 2) (uni (paintI r 3) t))) else []))) : Bool) (true : Bool) e1.symm
end Go.Ch
end
section
set_option linter.unusedVariables false
set_option linter.unusedSimpArgs false
namespace Go.Proofs.Ythpcjddcgdlilaa.frame
open Go Go.Proofs
def chs (l : List Nat) : List Char := l.map Char.ofNat
def w1 : List Char := chs [104, 97, 114, 110, 101, 115, 115]
def w2 : List Char := chs [55, 48, 97, 53, 57, 97, 100, 49, 99, 101, 48, 53, 97, 53, 57, 48, 98, 53, 51, 48, 99, 54, 53, 99, 53, 101, 53, 98, 101, 52, 52, 100, 50, 98, 49, 102, 97, 99, 54, 48, 101, 53, 102, 53, 49, 98, 57, 48, 55, 98, 56, 51, 53, 53, 51, 99, 54, 49, 99, 49, 97, 49, 99, 52]
def w3 : List Char := chs [99, 117, 116]
def sp : Char := Char.ofNat 32
theorem ws_sp (r : List Char) : wordsSigns (sp :: r) = [] :: wordsSigns r := rfl
theorem ws_c (c : Char) (r : List Char) (h : c ≠ sp) : wordsSigns (c :: r) = match wordsSigns r with
    | w :: ws => (c :: w) :: ws
    | [] => [[c]] := by
  rw [wordsSigns.eq_def]
  split
  · rename_i e; cases e
  · rename_i e; simp only [List.cons.injEq] at e; exact absurd e.1 h
  · rename_i e; simp only [List.cons.injEq] at e; obtain ⟨rfl, rfl⟩ := e; rfl
theorem ws_app : ∀ (a : List Char), (a.all fun c => c != sp) = true → ∀ r, wordsSigns (a ++ sp :: r) = a :: wordsSigns r
  | [], _, r => ws_sp r
  | c :: a, h, r => by
    simp only [List.all_cons, Bool.and_eq_true, bne_iff_ne] at h
    rw [List.cons_append, ws_c _ _ h.1, ws_app a h.2 r]
theorem tl (l : List Char) : (String.ofList l).toList = l := String.toList_ofList
theorem k1 : ("harness" : String).toList = w1 := tl w1
theorem k2 : ("cut" : String).toList = w3 := tl w3
theorem k3 : ("gc" : String).toList = chs [103, 99] := tl (chs [103, 99])
theorem k4 : ("spec" : String).toList = chs [115, 112, 101, 99] := tl (chs [115, 112, 101, 99])
theorem k5 : ("carried" : String).toList = chs [99, 97, 114, 114, 105, 101, 100] := tl (chs [99, 97, 114, 114, 105, 101, 100])
theorem lifts (r : List (List Char)) : stripLifts liftWords (w3 :: r) = ([], w3 :: r) := by
  unfold liftWords
  simp only [stripLifts]
  have key : ∀ l : List Nat, (w3 == chs l) = false → ∀ (s : String), s = String.ofList (chs l) → (w3 == s.toList) = false := fun l h s e => by rw [e, tl]; exact h
  rw [if_neg (by rw [key [102, 105, 110, 97, 108, 115] (by kernel_rfl) "finals" rfl]; decide)]
  rw [if_neg (by rw [key [114, 101, 102, 108, 101, 99, 116, 114, 111, 119, 115] (by kernel_rfl) "reflectrows" rfl]; decide)]
  rw [if_neg (by rw [key [108, 101, 97, 110, 114, 111, 119, 115] (by kernel_rfl) "leanrows" rfl]; decide)]
  rw [if_neg (by rw [key [111, 110, 101, 98, 117, 105, 108, 100] (by kernel_rfl) "onebuild" rfl]; decide)]
  rw [if_neg (by rw [key [112, 117, 98, 108, 105, 99, 115, 117, 109, 115] (by kernel_rfl) "publicsums" rfl]; decide)]
  rw [if_neg (by rw [key [101, 113, 103, 117, 97, 114, 100] (by kernel_rfl) "eqguard" rfl]; decide)]
  rw [if_neg (by rw [key [111, 119, 110, 117, 110, 115, 97, 102, 101] (by kernel_rfl) "ownunsafe" rfl]; decide)]
  rw [if_neg (by rw [key [108, 105, 98, 98, 101, 115, 105, 100, 101] (by kernel_rfl) "libbeside" rfl]; decide)]
  rw [if_neg (by rw [key [111, 119, 110, 98, 101, 115, 105, 100, 101] (by kernel_rfl) "ownbeside" rfl]; decide)]
  rw [if_neg (by rw [key [114, 101, 102, 108, 98, 101, 115, 105, 100, 101] (by kernel_rfl) "reflbeside" rfl]; decide)]
  rw [if_neg (by rw [key [97, 108, 105, 97, 115, 101, 115] (by kernel_rfl) "aliases" rfl]; decide)]
  rw [if_neg (by rw [key [97, 102, 116, 101, 114, 105, 110, 105, 116] (by kernel_rfl) "afterinit" rfl]; decide)]
  rw [if_neg (by rw [key [99, 114, 99, 112, 108, 97, 105, 110] (by kernel_rfl) "crcplain" rfl]; decide)]
  rw [if_neg (by rw [key [114, 111, 97, 100, 117, 110, 115, 97, 102, 101] (by kernel_rfl) "roadunsafe" rfl]; decide)]
  rw [if_neg (by rw [key [102, 109, 116, 104, 97, 110, 100, 111, 110] (by kernel_rfl) "fmthandon" rfl]; decide)]
theorem words {P : Program} {rest : List Char} (h : P.initOrder.toList = w1 ++ sp :: (w2 ++ sp :: (w3 ++ sp :: rest))) : behindMainWord (wordsSigns P.initOrder.toList) = w3 :: wordsSigns rest := by
  rw [h, ws_app w1 (by kernel_rfl), ws_app w2 (by kernel_rfl), ws_app w3 (by kernel_rfl)]
  unfold behindMainWord
  rw [k1]
  exact if_pos (by kernel_rfl)
theorem may {P : Program} {rest : List Char} (h : P.initOrder.toList = w1 ++ sp :: (w2 ++ sp :: (w3 ++ sp :: rest))) (hl : P.laysLater = false) (hb : P.bearsReflect = false) (hd : P.doorFits [] = true) : P.mayEnter = true := by
  unfold Program.mayEnter
  rw [words h]
  simp only [lifts, k2, k3, k4, k5, hl, hb, hd]
  have h1 : (w3 == chs [103, 99]) = false := by kernel_rfl
  have h2 : (w3 == chs [115, 112, 101, 99]) = false := by kernel_rfl
  have h3 : (w3 == chs [99, 97, 114, 114, 105, 101, 100]) = false := by kernel_rfl
  rw [h1, h2, h3]
  simp
theorem fin {P : Program} {rest : List Char} (h : P.initOrder.toList = w1 ++ sp :: (w2 ++ sp :: (w3 ++ sp :: rest))) : P.liftsFinal = false := by
  unfold Program.liftsFinal Program.headLifts
  rw [words h]
  simp only [lifts, k2, k5]
  have h3 : (w3 == chs [99, 97, 114, 114, 105, 101, 100]) = false := by kernel_rfl
  simp [h3]
theorem mk {P : Program} {rest : List Char} (h : P.initOrder.toList = w1 ++ sp :: (w2 ++ sp :: (w3 ++ sp :: rest))) : P.make = some .cut := by
  unfold Program.make
  rw [words h]
  simp only [k2, k3, k4, k5]
  have h1 : (w3 == chs [103, 99]) = false := by kernel_rfl
  have h2 : (w3 == chs [115, 112, 101, 99]) = false := by kernel_rfl
  rw [h1, h2]
  simp
theorem head : Try.pinned.checked.prog.initOrder = String.ofList (w1 ++ sp :: (w2 ++ sp :: (w3 ++ sp :: chs [97, 116, 32, 99, 104, 97, 110, 99, 101, 114, 121, 47, 99, 104, 97, 110, 99, 101, 114, 121, 107, 101, 101, 112, 49, 46, 82, 101, 112, 108, 105, 99, 97, 65, 110, 121, 79, 114, 100, 101, 114, 32, 99, 104, 97, 110, 99, 101, 114, 121, 47, 99, 104, 97, 110, 99, 101, 114, 121, 107, 101, 101, 112, 49, 46, 82, 101, 112, 108, 105, 99, 97, 66, 101, 116, 119, 101, 101, 110, 73, 110, 115, 101, 114, 116, 115, 32, 99, 104, 97, 110, 99, 101, 114, 121, 47, 99, 104, 97, 110, 99, 101, 114, 121, 107, 101, 101, 112, 49, 46, 82, 101, 112, 108, 105, 99, 97, 73, 115, 84, 114, 101, 101, 32, 99, 104, 97, 110, 99, 101, 114, 121, 47, 99, 104, 97, 110, 99, 101, 114, 121, 107, 101, 101, 112, 49, 46, 82, 101, 112, 108, 105, 99, 97, 84, 111, 119, 97, 114, 100, 115, 66, 97, 99, 107]))) := by kernel_rfl
set_option maxRecDepth 100000 in
theorem headL : Try.pinned.checked.prog.initOrder.toList = w1 ++ sp :: (w2 ++ sp :: (w3 ++ sp :: chs [97, 116, 32, 99, 104, 97, 110, 99, 101, 114, 121, 47, 99, 104, 97, 110, 99, 101, 114, 121, 107, 101, 101, 112, 49, 46, 82, 101, 112, 108, 105, 99, 97, 65, 110, 121, 79, 114, 100, 101, 114, 32, 99, 104, 97, 110, 99, 101, 114, 121, 47, 99, 104, 97, 110, 99, 101, 114, 121, 107, 101, 101, 112, 49, 46, 82, 101, 112, 108, 105, 99, 97, 66, 101, 116, 119, 101, 101, 110, 73, 110, 115, 101, 114, 116, 115, 32, 99, 104, 97, 110, 99, 101, 114, 121, 47, 99, 104, 97, 110, 99, 101, 114, 121, 107, 101, 101, 112, 49, 46, 82, 101, 112, 108, 105, 99, 97, 73, 115, 84, 114, 101, 101, 32, 99, 104, 97, 110, 99, 101, 114, 121, 47, 99, 104, 97, 110, 99, 101, 114, 121, 107, 101, 101, 112, 49, 46, 82, 101, 112, 108, 105, 99, 97, 84, 111, 119, 97, 114, 100, 115, 66, 97, 99, 107])) := by rw [head, tl]
theorem later : Try.pinned.checked.prog.laysLater = false := by kernel_rfl
theorem refl : Try.pinned.checked.prog.bearsReflect = false := by kernel_rfl
theorem door : Try.pinned.checked.prog.doorFits [] = true := by kernel_rfl
theorem mayEnter : Try.pinned.checked.prog.mayEnter = true := may headL later refl door
theorem made : Try.pinned.checked.prog.make = some .cut := mk headL
theorem laid : laidOutB Try.pinned.checked.prog = true := by kernel_rfl
theorem rowed : mapsRowed Try.pinned.checked.prog = true := by kernel_rfl
theorem noStops : Try.pinned.checked.prog.stops = [] := by kernel_rfl
theorem noKnobs : Try.pinned.checked.prog.stopKnobs = [] := by kernel_rfl
theorem heard : Try.pinned.checked.prog.stopsHeard = true := by kernel_rfl
theorem keys : Try.pinned.checked.prog.plainKeys = true := by kernel_rfl
theorem liftsNo : Try.pinned.checked.prog.liftsFinal = false := fin headL
end Go.Proofs.Ythpcjddcgdlilaa.frame
end
