/- The machine's steps, bundled for 'simp'. Written by wip/tools/bun.py. -/
import Derived.Test.YtcibofbmennjpaaDoorAmView4
set_option linter.unusedVariables false
set_option linter.unusedSimpArgs false
namespace Go.Am
theorem AM : (((((((∀ {G : Nat → List AV} {F : Nat → Option MF} {rec : Rec} (st : St), execs G F rec [] st = some st) ∧
 ((∀ {G : Nat → List AV} {F : Nat → Option MF} {rec : Rec} (d : Option Nat) (mi : MI) (l : List I) (st : St), execs G F rec ({ d := d, g := none, i := mi } :: l) st = contE G F rec d l (runI G F rec mi st)) ∧
 (∀ {G : Nat → List AV} {F : Nat → Option MF} {rec : Rec} (d : Option Nat) (t : Nat) (want : Bool) (mi : MI) (l : List I) (st : St), execs G F rec ({ d := d, g := some (t, want), i := mi } :: l) st = contG G F rec (guarded (Tm.get (St.tm st) t) want) d mi l st))) ∧
 ((∀ {α β : Type} (a : α) (f : α → Option β), bnd (some a) f = f a) ∧
 ((∀ {G : Nat → List AV} {F : Nat → Option MF} {rec : Rec} (d : Option Nat) (l : List I) (v : AV) (st : St), contE G F rec d l (some (v, st)) = execs G F rec l (St.put st d v)) ∧
 (∀ {G : Nat → List AV} {F : Nat → Option MF} {rec : Rec} (d : Option Nat) (mi : MI) (l : List I) (st : St), contG G F rec (some true) d mi l st = contE G F rec d l (runI G F rec mi st))))) ∧
 (((∀ {G : Nat → List AV} {F : Nat → Option MF} {rec : Rec} (d : Option Nat) (mi : MI) (l : List I) (st : St), contG G F rec (some false) d mi l st = execs G F rec l (St.put st d AV.undef)) ∧
 ((∀ (b want : Bool), guarded (AV.bool b) want = some (b == want)) ∧
 (∀ (want : Bool), guarded AV.undef want = some false))) ∧
 ((∀ {G : Nat → List AV} {F : Nat → Option MF} {rec : Rec} (st : St) (x : R), runI G F rec (MI.mov x) st = some (St.ev G st x, st)) ∧
 ((∀ {G : Nat → List AV} {F : Nat → Option MF} {rec : Rec} (st : St) (x y z : R), runI G F rec (MI.pick x y z) st = bnd (pickV (St.ev G st x) (St.ev G st y) (St.ev G st z)) fun (v : AV) ↦ some (v, st)) ∧
 (∀ {G : Nat → List AV} {F : Nat → Option MF} {rec : Rec} (st : St) (x y : R) (op : BinOp), runI G F rec (MI.bin op x y) st = bnd (abin op (St.ev G st x) (St.ev G st y)) fun (v : AV) ↦ some (v, st)))))) ∧
 ((((∀ {G : Nat → List AV} {F : Nat → Option MF} {rec : Rec} (st : St) (x : R), runI G F rec (MI.not x) st = bnd (notV (St.ev G st x)) fun (v : AV) ↦ some (v, st)) ∧
 ((∀ {G : Nat → List AV} {F : Nat → Option MF} {rec : Rec} (st : St) (x : R) (k : IntKind), runI G F rec (MI.conv k x) st = bnd (convV k (St.ev G st x)) fun (v : AV) ↦ some (v, st)) ∧
 (∀ {G : Nat → List AV} {F : Nat → Option MF} {rec : Rec} (st : St) (x : R), runI G F rec (MI.ld1 x) st = bnd (ld1V st (St.ev G st x)) fun (v : AV) ↦ some (v, st)))) ∧
 ((∀ {G : Nat → List AV} {F : Nat → Option MF} {rec : Rec} (st : St) (x : R) (n : Nat), runI G F rec (MI.ldn n x) st = bnd (ldnV st n (St.ev G st x)) fun (v : AV) ↦ some (v, st)) ∧
 ((∀ {G : Nat → List AV} {F : Nat → Option MF} {rec : Rec} (st : St) (x y : R), runI G F rec (MI.st1 x y) st = if AV.one (St.ev G st y) = true then bnd (St.write st (St.ev G st x) [St.ev G st y]) fun (s : St) ↦ some (AV.undef, s) else none) ∧
 (∀ {G : Nat → List AV} {F : Nat → Option MF} {rec : Rec} (st : St) (x : R) (off : Nat), runI G F rec (MI.faddr off x) st = bnd (faddrV st off (St.ev G st x)) fun (v : AV) ↦ some (v, st))))) ∧
 (((∀ {G : Nat → List AV} {F : Nat → Option MF} {rec : Rec} (st : St) (x : R), runI G F rec (MI.len x) st = bnd (lenV st (St.ev G st x)) fun (n : Int) ↦ some (AV.int IntKind.i64 n, st)) ∧
 ((∀ {G : Nat → List AV} {F : Nat → Option MF} {rec : Rec} (st : St) (x y : R) (sz : Nat), runI G F rec (MI.iaddr sz x y) st = bnd (iaddrV st sz (St.ev G st x) (St.ev G st y)) fun (v : AV) ↦ some (v, st)) ∧
 (∀ {G : Nat → List AV} {F : Nat → Option MF} {rec : Rec} (st : St) (x : R) (i : Nat), runI G F rec (MI.ext x i) st = bnd (extV i (St.ev G st x)) fun (v : AV) ↦ some (v, st)))) ∧
 (((∀ {G : Nat → List AV} {F : Nat → Option MF} {rec : Rec} (st : St) (x y : R) (neg : Bool), runI G F rec (MI.eqa neg x y) st = bnd (eqaV neg (St.ev G st x) (St.ev G st y)) fun (v : AV) ↦ some (v, st)) ∧
 (∀ {G : Nat → List AV} {F : Nat → Option MF} {rec : Rec} (st : St) (j : Option Nat) (e : TypeId) (cs : List AV), runI G F rec (MI.new j e cs) st = bnd (St.newBox st j { cs := cs, sz := List.length cs, e := e, status := Status.live }) fun (p : Nat × St) ↦ some (AV.ptr (Prod.fst p) (List.length cs) 0, Prod.snd p))) ∧
 ((∀ {G : Nat → List AV} {F : Nat → Option MF} {rec : Rec} (st : St) (x : R) (j : Option Nat) (e : TypeId) (sz : Nat), runI G F rec (MI.box j e sz x) st = if List.length (AV.cells (St.ev G st x)) = sz ∧ List.all (AV.cells (St.ev G st x)) AV.one = true then bnd (St.newBox st j { cs := AV.cells (St.ev G st x), sz := sz, e := e, status := Status.live }) fun (p : Nat × St) ↦ some (AV.ptr (Prod.fst p) sz 0, Prod.snd p) else none) ∧
 (∀ {G : Nat → List AV} {F : Nat → Option MF} {rec : Rec} (st : St) (f : Nat) (cap : List R), runI G F rec (MI.fn f cap) st = some (AV.clo f (List.map (St.ev G st) cap), st))))))) ∧
 (((((∀ {G : Nat → List AV} {F : Nat → Option MF} {rec : Rec} (st : St) (f : Nat) (l : List R) (m : Mode), runI G F rec (MI.call f l m) st = doCall F rec m f (List.map (St.ev G st) l) st) ∧
 ((∀ {G : Nat → List AV} (st : St) (n : Nat), St.ev G st (R.t n) = Tm.get (St.tm st) n) ∧
 (∀ {G : Nat → List AV} (st : St) (v : AV), St.ev G st (R.c v) = v))) ∧
 ((∀ {G : Nat → List AV} (st : St) (n : Nat), St.ev G st (R.g n) = AV.rptr (G n)) ∧
 ((∀ (tm : Tm) (bx : List Box) (rb d : Nat) (v : AV), St.put { tm := tm, bx := bx, rb := rb } (some d) v = { tm := Tm.set tm d v, bx := bx, rb := rb }) ∧
 (∀ (st : St) (v : AV), St.put st none v = st)))) ∧
 (((∀ {t : Tm} {k : Nat} {v : AV} {m : Nat}, k < 65535 → Tm.get (Tm.set t k v) m = if k = m then v else Tm.get t m) ∧
 ((∀ (k : IntKind) (a b : Int), abin BinOp.add (AV.int k a) (AV.int k b) = some (AV.int k (IntKind.wrap k (a + b)))) ∧
 (∀ (k : IntKind) (a b : Int), abin BinOp.sub (AV.int k a) (AV.int k b) = some (AV.int k (IntKind.wrap k (a - b)))))) ∧
 (((∀ (k : IntKind) (a b : Int), abin BinOp.mul (AV.int k a) (AV.int k b) = some (AV.int k (IntKind.wrap k (a * b)))) ∧
 (∀ (k : IntKind) (a b : Int), abin BinOp.lss (AV.int k a) (AV.int k b) = some (AV.bool (decide (a < b))))) ∧
 ((∀ (k : IntKind) (a b : Int), abin BinOp.leq (AV.int k a) (AV.int k b) = some (AV.bool (decide (a ≤ b)))) ∧
 (∀ (k : IntKind) (a b : Int), abin BinOp.gtr (AV.int k a) (AV.int k b) = some (AV.bool (decide (a > b)))))))) ∧
 ((((∀ (k : IntKind) (a b : Int), abin BinOp.geq (AV.int k a) (AV.int k b) = some (AV.bool (decide (a ≥ b)))) ∧
 ((∀ (k : IntKind) (a b : Int), abin BinOp.eql (AV.int k a) (AV.int k b) = some (AV.bool (a == b))) ∧
 (∀ (k : IntKind) (a b : Int), abin BinOp.neq (AV.int k a) (AV.int k b) = some (AV.bool (a != b))))) ∧
 ((∀ (t : Bool) (a b : AV), pickV (AV.bool t) a b = some (bif t then a else b)) ∧
 ((∀ (t : Bool), notV (AV.bool t) = some (AV.bool !t)) ∧
 (∀ (k k' : IntKind) (n : Int), convV k (AV.int k' n) = some (AV.int k (IntKind.wrap k n)))))) ∧
 (((∀ (neg a b : Bool), eqaV neg (AV.bool a) (AV.bool b) = some (AV.bool (bif neg then !a == b else a == b))) ∧
 ((∀ (i : Nat) (vs : List AV), extV i (AV.tup vs) = vs[i]?) ∧
 (∀ {α : Type} {h : Decidable True} (t e : α), (if True then t else e) = t))) ∧
 (((∀ {α : Type} {h : Decidable False} (t e : α), (if False then t else e) = e) ∧
 (∀ {n : Int}, -9223372036854775808 ≤ n → n ≤ 9223372036854775807 → IntKind.wrap IntKind.i64 n = n)) ∧
 ((∀ (st : St) (o : Option (List Int)), lenV st (ints o) = some ↑(List.length (Option.getD o []))) ∧
 (∀ (st : St) (o : Option (List AV)), lenV st (sl o) = some ↑(List.length (Option.getD o []))))))))) ∧
 ((((((∀ (st : St) (o : Option (List Int)) (k : IntKind) (i : Int), 0 ≤ i ∧ i < ↑(List.length (Option.getD o [])) → iaddrV st 1 (ints o) (AV.int k i) = some (AV.rptr (List.map (AV.int IntKind.i64) (List.drop (Int.toNat i) (Option.getD o []))))) ∧
 ((∀ (st : St) (o : Option (List AV)) (k : IntKind) (i : Int), 0 ≤ i ∧ i < ↑(List.length (Option.getD o [])) → iaddrV st 1 (sl o) (AV.int k i) = some (AV.rptr (List.drop (Int.toNat i) (Option.getD o [])))) ∧
 (∀ (st : St) (cs : List AV), ld1V st (AV.rptr cs) = List.head? cs))) ∧
 ((∀ (l : List Int) (i : Int), Int.toNat i < List.length l → List.head? (List.map (AV.int IntKind.i64) (List.drop (Int.toNat i) l)) = some (AV.int IntKind.i64 (List.getD l (Int.toNat i) 0))) ∧
 ((∀ (l : List Int) (i : Nat), i < List.length l → List.head? (List.map (AV.int IntKind.i64) (List.drop i l)) = some (AV.int IntKind.i64 (List.getD l i 0))) ∧
 (∀ (n : Nat), Int.toNat ↑n = n)))) ∧
 (((∀ {α β : Type} {f : α → β} {a : α} {l : List α}, List.map f (a :: l) = f a :: List.map f l) ∧
 ((∀ {α β : Type} {f : α → β}, List.map f [] = []) ∧
 (∀ {F : Nat → Option MF} {rec : Rec} {f : Nat} {a : AV} {st : St}, Plain a → doCall F rec Mode.pureV f [a] st = callV (pcall F rec f [a]) st))) ∧
 ((∀ {F : Nat → Option MF} {rec : Rec} {f : Nat} {a b : AV} {st : St}, Plain a → Plain b → doCall F rec Mode.pureV f [a, b] st = callV (pcall F rec f [a, b]) st) ∧
 ((∀ {F : Nat → Option MF} {rec : Rec} {f : Nat} {a b c : AV} {st : St}, Plain a → Plain b → Plain c → doCall F rec Mode.pureV f [a, b, c] st = callV (pcall F rec f [a, b, c]) st) ∧
 (∀ (v : AV) (al : Bool) (st : St), callV (some (Res.val v, al)) st = some (v, st)))))) ∧
 ((((∀ {G : Nat → List AV} {F : Nat → Option MF} {rec : Rec} (j : Option Nat) (e : TypeId) (sz len : Nat) (z : List AV) (ps : List (Nat × Nat × R)) (st : St), runI G F rec (MI.blds j false e sz len z ps) st = bnd (bldF (List.map (fun (p : Nat × Nat × R) ↦ (Prod.fst p, Prod.fst (Prod.snd p), St.ev G st (Prod.snd (Prod.snd p)))) ps) z (len * sz)) fun (cs : List AV) ↦ some (AV.lst len cs, st)) ∧
 ((∀ (k : IntKind) (a : Int) (z : AV) (n : Nat), n = 1 → bldF [(0, 1, AV.int k a)] [z] n = some [AV.int k a]) ∧
 (∀ (k k' : IntKind) (a b : Int) (z z' : AV) (n : Nat), n = 2 → bldF [(0, 1, AV.int k a), (1, 1, AV.int k' b)] [z, z'] n = some [AV.int k a, AV.int k' b]))) ∧
 ((∀ {G : Nat → List AV} {F : Nat → Option MF} {rec : Rec} (j : Option Nat) (e : TypeId) (sz bytes : Nat) (s x : R) (st : St), runI G F rec (MI.app j e sz bytes s x) st = appV st j e sz bytes (St.ev G st s) (St.ev G st x)) ∧
 ((∀ (tm : Tm) (rb : Nat) (e : TypeId) (bytes : Nat) (c : AV) (cs : List AV), AV.one c = true → (List.length cs + 1) * bytes ≤ 140737488355328 → List.length cs + 1 ≤ 9223372036854775807 → appV { tm := tm, bx := Prod.snd (grown e cs), rb := rb } none e 1 bytes (Prod.fst (grown e cs)) (AV.lst 1 [c]) = some (Prod.fst (grown e (cs ++ [c])), { tm := tm, bx := Prod.snd (grown e (cs ++ [c])), rb := rb })) ∧
 (∀ (v : AV) (al : Bool) (st : St), callP (some (Res.val v, al)) st = some (v, st))))) ∧
 (((∀ (n : Nat) (cs : List AV) (sz : Nat) (e : TypeId) (al : Bool) (tm : Tm) (bx : List Box) (rb : Nat), callP (some (Res.own n cs sz e, al)) { tm := tm, bx := bx, rb := rb } = some (AV.own (List.length bx) n, { tm := tm, bx := bx ++ [{ cs := cs, sz := sz, e := e, status := Status.live }], rb := rb })) ∧
 ((∀ {F : Nat → Option MF} {rec : Rec} {f : Nat} {a : AV} {st : St}, Plain a → doCall F rec Mode.pure f [a] st = callP (pcall F rec f [a]) st) ∧
 (∀ {α β : Type} (f : α → Option β), bnd none f = none))) ∧
 (((∀ (n : Nat), n * 1 = n) ∧
 (∀ (k : IntKind) (n : Int), AV.one (AV.int k n) = true)) ∧
 ((∀ (tm : Tm) (bx : List Box) (rb : Nat) (b : Box), St.newBox { tm := tm, bx := bx, rb := rb } none b = some (List.length bx, { tm := tm, bx := bx ++ [b], rb := rb })) ∧
 (∀ (st : St) (d : Des), lenV st (rowsV (Des.blocks d)) = some ↑(List.length (Des.rows d)))))))) ∧
 (((((∀ (st : St) (d : Des) (k : IntKind) (i : Int), 0 ≤ i ∧ i < ↑(List.length (Des.rows d)) → iaddrV st 1 (rowsV (Des.blocks d)) (AV.int k i) = some (AV.rptr (List.map ints (List.drop (Int.toNat i) (Des.rows d))))) ∧
 ((∀ {G : Nat → List AV} {F : Nat → Option MF} {rec : Rec} (x : R) (l : List R) (m : Mode) (st : St), runI G F rec (MI.callv x l m) st = cloV F rec (St.ev G st x) m (List.map (St.ev G st) l) st) ∧
 (∀ {F : Nat → Option MF} {rec : Rec} (f : Nat) (cap : List AV) (m : Mode) (args : List AV) (st : St), cloV F rec (AV.clo f cap) m args st = doCall F rec m f (args ++ cap) st))) ∧
 ((∀ {α : Type} {a : α} {as bs : List α}, a :: as ++ bs = a :: (as ++ bs)) ∧
 ((∀ {α : Type} (as : List α), [] ++ as = as) ∧
 (∀ (l : List (Option (List Int))) (i : Nat), i < List.length l → List.head? (List.map ints (List.drop i l)) = some (ints (List.getD l i none)))))) ∧
 (((∀ (d : Des), AV.cells (Des.av d) = Des.cells d) ∧
 ((∀ (d : Des), List.length (Des.cells d) = 2) ∧
 (∀ (d : Des), List.all (Des.cells d) AV.one = true))) ∧
 (((∀ (d : Des), (Des.cells d)[0]? = some (AV.int IntKind.i64 (Des.points d))) ∧
 (∀ (d : Des), (Des.cells d)[1]? = some (rowsV (Des.blocks d)))) ∧
 ((∀ (n : Nat), 0 + n = n) ∧
 (∀ (p : Prop), (p ∧ p) = p))))) ∧
 ((((∀ (p : Prop), (True ∧ p) = p) ∧
 ((∀ {α : Type}, List.length ([] : List α) = 0) ∧
 (∀ (h : Decidable True), decide True = true))) ∧
 ((∀ (h : Decidable False), decide False = false) ∧
 ((∀ {α : Type} (a b : α), (bif true then a else b) = a) ∧
 (∀ {α : Type} (a b : α), (bif false then a else b) = b)))) ∧
 ((((!true) = false) ∧
 (((!false) = true) ∧
 (∀ {α : Type} [inst : BEq α] [ReflBEq α] (a : α), (a == a) = true))) ∧
 (((∀ (b : Bool), (true == b) = b) ∧
 (∀ (b : Bool), (false == b) = !b)) ∧
 ((∀ (b : Bool), (b == true) = b) ∧
 (∀ (b : Bool), (b == false) = !b)))))))) :=
 ⟨⟨⟨⟨⟨⟨@execs_nil, ⟨@execs_cons, @execs_cons_g⟩⟩, ⟨@bnd_some, ⟨@contE_some, @contG_true⟩⟩⟩, ⟨⟨@contG_false, ⟨@guarded_bool, @guarded_undef⟩⟩, ⟨@run_mov, ⟨@run_pick, @run_binI⟩⟩⟩⟩, ⟨⟨⟨@run_not, ⟨@run_conv, @run_ld1⟩⟩, ⟨@run_ldn, ⟨@run_st1, @run_faddr⟩⟩⟩, ⟨⟨@run_len, ⟨@run_iaddr, @run_ext⟩⟩, ⟨⟨@run_eqa, @run_new⟩, ⟨@run_box, @run_fn⟩⟩⟩⟩⟩, ⟨⟨⟨⟨@run_call, ⟨@ev_t, @ev_c⟩⟩, ⟨@ev_g, ⟨@put_s, @put_n⟩⟩⟩, ⟨⟨@Tm.gs, ⟨@abin_add, @abin_sub⟩⟩, ⟨⟨@abin_mul, @abin_lss⟩, ⟨@abin_leq, @abin_gtr⟩⟩⟩⟩, ⟨⟨⟨@abin_geq, ⟨@abin_eql, @abin_neq⟩⟩, ⟨@pickV_bool, ⟨@notV_bool, @convV_int⟩⟩⟩, ⟨⟨@eqaV_bool, ⟨@extV_tup, @if_true⟩⟩, ⟨⟨@if_false, @i64w⟩, ⟨@lenV_ints, @lenV_sl⟩⟩⟩⟩⟩⟩, ⟨⟨⟨⟨⟨@iaddrV_ints_pos, ⟨@iaddrV_sl_pos, @ld1V_rptr⟩⟩, ⟨@head_drop_ints, ⟨@head_drop_n, @Int.toNat_natCast⟩⟩⟩, ⟨⟨@List.map_cons, ⟨@List.map_nil, @doCall_plain1⟩⟩, ⟨@doCall_plain2, ⟨@doCall_plain3, @callV_some⟩⟩⟩⟩, ⟨⟨⟨@run_bldsF, ⟨@bldF_1, @bldF_2⟩⟩, ⟨@run_app, ⟨@appV_grown, @callP_val⟩⟩⟩, ⟨⟨@callP_own, ⟨@doCall_pureP1, @bnd_none⟩⟩, ⟨⟨@Nat.mul_one, @one_int⟩, ⟨@newBox_n, @lenV_des⟩⟩⟩⟩⟩, ⟨⟨⟨⟨@iaddrV_des, ⟨@run_callv, @cloV_clo⟩⟩, ⟨@List.cons_append, ⟨@List.nil_append, @head_drop_rows⟩⟩⟩, ⟨⟨@Des.av_cells, ⟨@Des.cells_len, @Des.cells_one⟩⟩, ⟨⟨@Des.cells0, @Des.cells1⟩, ⟨@Nat.zero_add, @and_self⟩⟩⟩⟩, ⟨⟨⟨@true_and, ⟨@List.length_nil, @decide_true⟩⟩, ⟨@decide_false, ⟨@cond_true, @cond_false⟩⟩⟩, ⟨⟨@Bool.not_true, ⟨@Bool.not_false, @beq_self_eq_true⟩⟩, ⟨⟨@Bool.true_beq, @Bool.false_beq⟩, ⟨@beq_true, @beq_false⟩⟩⟩⟩⟩⟩⟩
end Go.Am
