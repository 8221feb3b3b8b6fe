/- A part of the proof: contracts of functions, each proved once. -/
import Derived.Test.YtkbmagloekociaaE5
import Derived.Test.YtkbmagloekociaaChecked
namespace Go.Eng.M
open Go Go.Eng Go.Proofs
set_option pp.maxSteps 1000000
set_option pp.deepTerms true
set_option maxRecDepth 100000
noncomputable abbrev PP : Program := Try.prog
@[simp] theorem fact1 : tinfo PP 0 = some (false, 1) := by kernel_rfl
@[simp] theorem fact2 : tarray PP 0 = none := by kernel_rfl
@[simp] theorem fact3 : tzero PP 0 = some [Value.tuple #[]] := by kernel_rfl
@[simp] theorem fact4 : tslots PP 0 = [none] := by kernel_rfl
@[simp] theorem fact5 : tplaces PP 0 = none := by kernel_rfl
@[simp] theorem fact6 : PP.underlying 0 = some (TypeDesc.tuple #[]) := by kernel_rfl
@[simp] theorem fact7 : tinfo PP 1 = some (false, 1) := by kernel_rfl
@[simp] theorem fact8 : tarray PP 1 = none := by kernel_rfl
@[simp] theorem fact9 : zrow PP 1 = some [V.v Value.nilFunc] := by kernel_rfl
@[simp] theorem fact10 : tzero PP 1 = some [Value.nilFunc] := by kernel_rfl
@[simp] theorem fact11 : tslots PP 1 = [none] := by kernel_rfl
@[simp] theorem fact12 : tplaces PP 1 = none := by kernel_rfl
@[simp] theorem fact13 : PP.underlying 1 = some (TypeDesc.func #[] #[] false) := by kernel_rfl
@[simp] theorem fact14 : tinfo PP 2 = some (false, 1) := by kernel_rfl
@[simp] theorem fact15 : tarray PP 2 = none := by kernel_rfl
@[simp] theorem fact16 : zrow PP 2 = some [V.v (Value.int IntKind.i64 (0))] := by kernel_rfl
@[simp] theorem fact17 : tzero PP 2 = some [Value.int IntKind.i64 (0)] := by kernel_rfl
@[simp] theorem fact18 : tslots PP 2 = [none] := by kernel_rfl
@[simp] theorem fact19 : tplaces PP 2 = none := by kernel_rfl
@[simp] theorem fact20 : PP.underlying 2 = some (TypeDesc.int IntKind.i64) := by kernel_rfl
@[simp] theorem fact21 : tinfo PP 3 = some (false, 1) := by kernel_rfl
@[simp] theorem fact22 : tarray PP 3 = none := by kernel_rfl
@[simp] theorem fact23 : zrow PP 3 = some [V.v (Value.int IntKind.i64 (0))] := by kernel_rfl
@[simp] theorem fact24 : tzero PP 3 = some [Value.int IntKind.i64 (0)] := by kernel_rfl
@[simp] theorem fact25 : tslots PP 3 = [none] := by kernel_rfl
@[simp] theorem fact26 : tplaces PP 3 = none := by kernel_rfl
@[simp] theorem fact27 : PP.underlying 3 = some (TypeDesc.int IntKind.i64) := by kernel_rfl
@[simp] theorem fact28 : tinfo PP 4 = some (false, 1) := by kernel_rfl
@[simp] theorem fact29 : tarray PP 4 = none := by kernel_rfl
@[simp] theorem fact30 : zrow PP 4 = some [V.v (Value.bool false)] := by kernel_rfl
@[simp] theorem fact31 : tzero PP 4 = some [Value.bool false] := by kernel_rfl
@[simp] theorem fact32 : tslots PP 4 = [none] := by kernel_rfl
@[simp] theorem fact33 : tplaces PP 4 = none := by kernel_rfl
@[simp] theorem fact34 : PP.underlying 4 = some TypeDesc.bool := by kernel_rfl
@[simp] theorem fact35 : tinfo PP 5 = some (false, 1) := by kernel_rfl
@[simp] theorem fact36 : tarray PP 5 = none := by kernel_rfl
@[simp] theorem fact37 : zrow PP 5 = some [V.v (Value.int IntKind.u8 (0))] := by kernel_rfl
@[simp] theorem fact38 : tzero PP 5 = some [Value.int IntKind.u8 (0)] := by kernel_rfl
@[simp] theorem fact39 : tslots PP 5 = [none] := by kernel_rfl
@[simp] theorem fact40 : tplaces PP 5 = none := by kernel_rfl
@[simp] theorem fact41 : PP.underlying 5 = some (TypeDesc.int IntKind.u8) := by kernel_rfl
@[simp] theorem fact42 : tinfo PP 6 = some (false, 1) := by kernel_rfl
@[simp] theorem fact43 : tarray PP 6 = none := by kernel_rfl
@[simp] theorem fact44 : zrow PP 6 = some [V.v (Value.int IntKind.u8 (0))] := by kernel_rfl
@[simp] theorem fact45 : tzero PP 6 = some [Value.int IntKind.u8 (0)] := by kernel_rfl
@[simp] theorem fact46 : tslots PP 6 = [none] := by kernel_rfl
@[simp] theorem fact47 : tplaces PP 6 = none := by kernel_rfl
@[simp] theorem fact48 : PP.underlying 6 = some (TypeDesc.int IntKind.u8) := by kernel_rfl
@[simp] theorem fact49 : tinfo PP 7 = some (true, 4) := by kernel_rfl
@[simp] theorem fact50 : tarray PP 7 = none := by kernel_rfl
@[simp] theorem fact51 : zrow PP 7 = some [V.v (Value.int IntKind.i64 (0)), V.v (Value.int IntKind.i64 (0)), V.v (Value.bool false), V.v (Value.int IntKind.u8 (0))] := by kernel_rfl
@[simp] theorem fact52 : tzero PP 7 = some [Value.int IntKind.i64 (0), Value.int IntKind.i64 (0), Value.bool false, Value.int IntKind.u8 (0)] := by kernel_rfl
@[simp] theorem fact53 : tslots PP 7 = [none, none, none, none] := by kernel_rfl
@[simp] theorem fact54 : tplaces PP 7 = some [(0, 1), (1, 1), (2, 1), (3, 1)] := by kernel_rfl
@[simp] theorem fact55 : tinfo PP 8 = some (true, 4) := by kernel_rfl
@[simp] theorem fact56 : tarray PP 8 = none := by kernel_rfl
@[simp] theorem fact57 : zrow PP 8 = some [V.v (Value.int IntKind.i64 (0)), V.v (Value.int IntKind.i64 (0)), V.v (Value.bool false), V.v (Value.int IntKind.u8 (0))] := by kernel_rfl
@[simp] theorem fact58 : tzero PP 8 = some [Value.int IntKind.i64 (0), Value.int IntKind.i64 (0), Value.bool false, Value.int IntKind.u8 (0)] := by kernel_rfl
@[simp] theorem fact59 : tslots PP 8 = [none, none, none, none] := by kernel_rfl
@[simp] theorem fact60 : tplaces PP 8 = some [(0, 1), (1, 1), (2, 1), (3, 1)] := by kernel_rfl
@[simp] theorem fact61 : tinfo PP 9 = some (false, 1) := by kernel_rfl
@[simp] theorem fact62 : tarray PP 9 = none := by kernel_rfl
@[simp] theorem fact63 : zrow PP 9 = some [V.v (Value.string { data := #[] })] := by kernel_rfl
@[simp] theorem fact64 : tzero PP 9 = some [Value.string { data := #[] }] := by kernel_rfl
@[simp] theorem fact65 : tslots PP 9 = [none] := by kernel_rfl
@[simp] theorem fact66 : tplaces PP 9 = none := by kernel_rfl
@[simp] theorem fact67 : PP.underlying 9 = some TypeDesc.string := by kernel_rfl
@[simp] theorem fact68 : tinfo PP 10 = some (false, 1) := by kernel_rfl
@[simp] theorem fact69 : tarray PP 10 = none := by kernel_rfl
@[simp] theorem fact70 : zrow PP 10 = some [V.v (Value.string { data := #[] })] := by kernel_rfl
@[simp] theorem fact71 : tzero PP 10 = some [Value.string { data := #[] }] := by kernel_rfl
@[simp] theorem fact72 : tslots PP 10 = [none] := by kernel_rfl
@[simp] theorem fact73 : tplaces PP 10 = none := by kernel_rfl
@[simp] theorem fact74 : PP.underlying 10 = some TypeDesc.string := by kernel_rfl
@[simp] theorem fact75 : tinfo PP 11 = some (false, 1) := by kernel_rfl
@[simp] theorem fact76 : tarray PP 11 = none := by kernel_rfl
@[simp] theorem fact77 : zrow PP 11 = some [V.v (Value.string { data := #[] })] := by kernel_rfl
@[simp] theorem fact78 : tzero PP 11 = some [Value.string { data := #[] }] := by kernel_rfl
@[simp] theorem fact79 : tslots PP 11 = [none] := by kernel_rfl
@[simp] theorem fact80 : tplaces PP 11 = none := by kernel_rfl
@[simp] theorem fact81 : PP.underlying 11 = some TypeDesc.string := by kernel_rfl
@[simp] theorem fact82 : tinfo PP 12 = some (false, 1) := by kernel_rfl
@[simp] theorem fact83 : tarray PP 12 = none := by kernel_rfl
@[simp] theorem fact84 : zrow PP 12 = some [V.v (Value.int IntKind.u64 (0))] := by kernel_rfl
@[simp] theorem fact85 : tzero PP 12 = some [Value.int IntKind.u64 (0)] := by kernel_rfl
@[simp] theorem fact86 : tslots PP 12 = [none] := by kernel_rfl
@[simp] theorem fact87 : tplaces PP 12 = none := by kernel_rfl
@[simp] theorem fact88 : PP.underlying 12 = some (TypeDesc.int IntKind.u64) := by kernel_rfl
@[simp] theorem fact89 : tinfo PP 13 = some (true, 2) := by kernel_rfl
@[simp] theorem fact90 : tarray PP 13 = none := by kernel_rfl
@[simp] theorem fact91 : zrow PP 13 = some [V.v (Value.string { data := #[] }), V.v (Value.int IntKind.u64 (0))] := by kernel_rfl
@[simp] theorem fact92 : tzero PP 13 = some [Value.string { data := #[] }, Value.int IntKind.u64 (0)] := by kernel_rfl
@[simp] theorem fact93 : tslots PP 13 = [none, none] := by kernel_rfl
@[simp] theorem fact94 : tplaces PP 13 = some [(0, 1), (1, 1)] := by kernel_rfl
@[simp] theorem fact95 : tinfo PP 14 = some (true, 2) := by kernel_rfl
@[simp] theorem fact96 : tarray PP 14 = none := by kernel_rfl
@[simp] theorem fact97 : zrow PP 14 = some [V.v (Value.string { data := #[] }), V.v (Value.int IntKind.u64 (0))] := by kernel_rfl
@[simp] theorem fact98 : tzero PP 14 = some [Value.string { data := #[] }, Value.int IntKind.u64 (0)] := by kernel_rfl
@[simp] theorem fact99 : tslots PP 14 = [none, none] := by kernel_rfl
@[simp] theorem fact100 : tplaces PP 14 = some [(0, 1), (1, 1)] := by kernel_rfl
@[simp] theorem fact101 : tinfo PP 15 = some (false, 1) := by kernel_rfl
@[simp] theorem fact102 : tarray PP 15 = none := by kernel_rfl
@[simp] theorem fact103 : zrow PP 15 = some [V.v (Value.pointer none)] := by kernel_rfl
@[simp] theorem fact104 : tzero PP 15 = some [Value.pointer none] := by kernel_rfl
@[simp] theorem fact105 : tslots PP 15 = [none] := by kernel_rfl
@[simp] theorem fact106 : tplaces PP 15 = none := by kernel_rfl
@[simp] theorem fact107 : PP.underlying 15 = some (TypeDesc.pointer 149) := by kernel_rfl
@[simp] theorem fact108 : tinfo PP 16 = some (false, 1) := by kernel_rfl
@[simp] theorem fact109 : tarray PP 16 = none := by kernel_rfl
@[simp] theorem fact110 : zrow PP 16 = some [V.v (Value.pointer none)] := by kernel_rfl
@[simp] theorem fact111 : tzero PP 16 = some [Value.pointer none] := by kernel_rfl
@[simp] theorem fact112 : tslots PP 16 = [none] := by kernel_rfl
@[simp] theorem fact113 : tplaces PP 16 = none := by kernel_rfl
@[simp] theorem fact114 : PP.underlying 16 = some (TypeDesc.pointer 152) := by kernel_rfl
@[simp] theorem fact115 : tinfo PP 17 = some (false, 1) := by kernel_rfl
@[simp] theorem fact116 : tarray PP 17 = none := by kernel_rfl
@[simp] theorem fact117 : zrow PP 17 = some [V.v (Value.pointer none)] := by kernel_rfl
@[simp] theorem fact118 : tzero PP 17 = some [Value.pointer none] := by kernel_rfl
@[simp] theorem fact119 : tslots PP 17 = [none] := by kernel_rfl
@[simp] theorem fact120 : tplaces PP 17 = none := by kernel_rfl
@[simp] theorem fact121 : PP.underlying 17 = some (TypeDesc.pointer 162) := by kernel_rfl
@[simp] theorem fact122 : tinfo PP 18 = some (true, 1) := by kernel_rfl
@[simp] theorem fact123 : tarray PP 18 = none := by kernel_rfl
@[simp] theorem fact124 : zrow PP 18 = some [V.v (Value.pointer none)] := by kernel_rfl
@[simp] theorem fact125 : tzero PP 18 = some [Value.pointer none] := by kernel_rfl
@[simp] theorem fact126 : tslots PP 18 = [none] := by kernel_rfl
@[simp] theorem fact127 : tplaces PP 18 = some [(0, 1)] := by kernel_rfl
@[simp] theorem fact128 : tinfo PP 19 = some (true, 1) := by kernel_rfl
@[simp] theorem fact129 : tarray PP 19 = none := by kernel_rfl
@[simp] theorem fact130 : zrow PP 19 = some [V.v (Value.pointer none)] := by kernel_rfl
@[simp] theorem fact131 : tzero PP 19 = some [Value.pointer none] := by kernel_rfl
@[simp] theorem fact132 : tslots PP 19 = [none] := by kernel_rfl
@[simp] theorem fact133 : tplaces PP 19 = some [(0, 1)] := by kernel_rfl
@[simp] theorem fact134 : tinfo PP 20 = some (false, 1) := by kernel_rfl
@[simp] theorem fact135 : tarray PP 20 = none := by kernel_rfl
@[simp] theorem fact136 : zrow PP 20 = some [V.v Value.nilIface] := by kernel_rfl
@[simp] theorem fact137 : tzero PP 20 = some [Value.nilIface] := by kernel_rfl
@[simp] theorem fact138 : tslots PP 20 = [none] := by kernel_rfl
@[simp] theorem fact139 : tplaces PP 20 = none := by kernel_rfl
@[simp] theorem fact140 : PP.underlying 20 = some (TypeDesc.interface #[]) := by kernel_rfl
@[simp] theorem fact141 : tinfo PP 21 = some (false, 1) := by kernel_rfl
@[simp] theorem fact142 : tarray PP 21 = none := by kernel_rfl
@[simp] theorem fact143 : zrow PP 21 = some [V.v (Value.int IntKind.i32 (0))] := by kernel_rfl
@[simp] theorem fact144 : tzero PP 21 = some [Value.int IntKind.i32 (0)] := by kernel_rfl
@[simp] theorem fact145 : tslots PP 21 = [none] := by kernel_rfl
@[simp] theorem fact146 : tplaces PP 21 = none := by kernel_rfl
@[simp] theorem fact147 : PP.underlying 21 = some (TypeDesc.int IntKind.i32) := by kernel_rfl
@[simp] theorem fact148 : tinfo PP 22 = some (false, 1) := by kernel_rfl
@[simp] theorem fact149 : tslice PP 22 = some (5, 1, 1) := by kernel_rfl
@[simp] theorem fact150 : tarray PP 22 = none := by kernel_rfl
@[simp] theorem fact151 : zrow PP 22 = some [V.own 1 []] := by kernel_rfl
@[simp] theorem fact152 : tzero PP 22 = some [Value.slice none 0 0] := by kernel_rfl
@[simp] theorem fact153 : tslots PP 22 = [some 1] := by kernel_rfl
@[simp] theorem fact154 : tplaces PP 22 = none := by kernel_rfl
@[simp] theorem fact155 : PP.underlying 22 = some (TypeDesc.slice 5) := by kernel_rfl
@[simp] theorem fact156 : tinfo PP 23 = some (false, 1) := by kernel_rfl
@[simp] theorem fact157 : tslice PP 23 = some (69, 4, 48) := by kernel_rfl
@[simp] theorem fact158 : tarray PP 23 = none := by kernel_rfl
@[simp] theorem fact159 : zrow PP 23 = some [V.own 4 []] := by kernel_rfl
@[simp] theorem fact160 : tzero PP 23 = some [Value.slice none 0 0] := by kernel_rfl
@[simp] theorem fact161 : tslots PP 23 = [some 4] := by kernel_rfl
@[simp] theorem fact162 : tplaces PP 23 = none := by kernel_rfl
@[simp] theorem fact163 : PP.underlying 23 = some (TypeDesc.slice 69) := by kernel_rfl
@[simp] theorem fact164 : tinfo PP 24 = some (true, 3) := by kernel_rfl
@[simp] theorem fact165 : tarray PP 24 = none := by kernel_rfl
@[simp] theorem fact166 : zrow PP 24 = some [V.v (Value.int IntKind.i64 (0)), V.own 1 [], V.own 4 []] := by kernel_rfl
@[simp] theorem fact167 : tzero PP 24 = some [Value.int IntKind.i64 (0), Value.slice none 0 0, Value.slice none 0 0] := by kernel_rfl
@[simp] theorem fact168 : tslots PP 24 = [none, some 1, some 4] := by kernel_rfl
@[simp] theorem fact169 : tplaces PP 24 = some [(0, 1), (1, 1), (2, 1)] := by kernel_rfl
@[simp] theorem fact170 : tinfo PP 25 = some (true, 3) := by kernel_rfl
@[simp] theorem fact171 : tarray PP 25 = none := by kernel_rfl
@[simp] theorem fact172 : zrow PP 25 = some [V.v (Value.int IntKind.i64 (0)), V.own 1 [], V.own 4 []] := by kernel_rfl
@[simp] theorem fact173 : tzero PP 25 = some [Value.int IntKind.i64 (0), Value.slice none 0 0, Value.slice none 0 0] := by kernel_rfl
@[simp] theorem fact174 : tslots PP 25 = [none, some 1, some 4] := by kernel_rfl
@[simp] theorem fact175 : tplaces PP 25 = some [(0, 1), (1, 1), (2, 1)] := by kernel_rfl
@[simp] theorem fact176 : tinfo PP 26 = some (false, 1) := by kernel_rfl
@[simp] theorem fact177 : tslice PP 26 = some (3, 1, 8) := by kernel_rfl
@[simp] theorem fact178 : tarray PP 26 = none := by kernel_rfl
@[simp] theorem fact179 : zrow PP 26 = some [V.own 1 []] := by kernel_rfl
@[simp] theorem fact180 : tzero PP 26 = some [Value.slice none 0 0] := by kernel_rfl
@[simp] theorem fact181 : tslots PP 26 = [some 1] := by kernel_rfl
@[simp] theorem fact182 : tplaces PP 26 = none := by kernel_rfl
@[simp] theorem fact183 : PP.underlying 26 = some (TypeDesc.slice 3) := by kernel_rfl
@[simp] theorem fact184 : tinfo PP 27 = some (false, 1) := by kernel_rfl
@[simp] theorem fact185 : tslice PP 27 = some (2, 1, 8) := by kernel_rfl
@[simp] theorem fact186 : tarray PP 27 = none := by kernel_rfl
@[simp] theorem fact187 : zrow PP 27 = some [V.own 1 []] := by kernel_rfl
@[simp] theorem fact188 : tzero PP 27 = some [Value.slice none 0 0] := by kernel_rfl
@[simp] theorem fact189 : tslots PP 27 = [some 1] := by kernel_rfl
@[simp] theorem fact190 : tplaces PP 27 = none := by kernel_rfl
@[simp] theorem fact191 : PP.underlying 27 = some (TypeDesc.slice 2) := by kernel_rfl
@[simp] theorem fact192 : tinfo PP 28 = some (false, 1) := by kernel_rfl
@[simp] theorem fact193 : tarray PP 28 = none := by kernel_rfl
@[simp] theorem fact194 : zrow PP 28 = some [V.v Value.nilFunc] := by kernel_rfl
@[simp] theorem fact195 : tzero PP 28 = some [Value.nilFunc] := by kernel_rfl
@[simp] theorem fact196 : tslots PP 28 = [none] := by kernel_rfl
@[simp] theorem fact197 : tplaces PP 28 = none := by kernel_rfl
@[simp] theorem fact198 : PP.underlying 28 = some (TypeDesc.func #[] #[4] false) := by kernel_rfl
@[simp] theorem fact199 : tinfo PP 29 = some (false, 1) := by kernel_rfl
@[simp] theorem fact200 : tarray PP 29 = none := by kernel_rfl
@[simp] theorem fact201 : zrow PP 29 = some [V.v (Value.pointer none)] := by kernel_rfl
@[simp] theorem fact202 : tzero PP 29 = some [Value.pointer none] := by kernel_rfl
@[simp] theorem fact203 : tslots PP 29 = [none] := by kernel_rfl
@[simp] theorem fact204 : tplaces PP 29 = none := by kernel_rfl
@[simp] theorem fact205 : PP.underlying 29 = some (TypeDesc.pointer 88) := by kernel_rfl
@[simp] theorem fact206 : tinfo PP 30 = some (false, 1) := by kernel_rfl
@[simp] theorem fact207 : tarray PP 30 = none := by kernel_rfl
@[simp] theorem fact208 : zrow PP 30 = some [V.v (Value.int IntKind.i64 (0))] := by kernel_rfl
@[simp] theorem fact209 : tzero PP 30 = some [Value.int IntKind.i64 (0)] := by kernel_rfl
@[simp] theorem fact210 : tslots PP 30 = [none] := by kernel_rfl
@[simp] theorem fact211 : tplaces PP 30 = none := by kernel_rfl
@[simp] theorem fact212 : PP.underlying 30 = some (TypeDesc.int IntKind.i64) := by kernel_rfl
@[simp] theorem fact213 : tinfo PP 31 = some (false, 1) := by kernel_rfl
@[simp] theorem fact214 : tarray PP 31 = none := by kernel_rfl
@[simp] theorem fact215 : tzero PP 31 = some [Value.tuple #[Value.pointer none, Value.int IntKind.i64 (0)]] := by kernel_rfl
@[simp] theorem fact216 : tslots PP 31 = [none] := by kernel_rfl
@[simp] theorem fact217 : tplaces PP 31 = none := by kernel_rfl
@[simp] theorem fact218 : PP.underlying 31 = some (TypeDesc.tuple #[29, 30]) := by kernel_rfl
@[simp] theorem fact219 : tinfo PP 32 = some (false, 1) := by kernel_rfl
@[simp] theorem fact220 : tarray PP 32 = none := by kernel_rfl
@[simp] theorem fact221 : zrow PP 32 = some [V.v Value.nilFunc] := by kernel_rfl
@[simp] theorem fact222 : tzero PP 32 = some [Value.nilFunc] := by kernel_rfl
@[simp] theorem fact223 : tslots PP 32 = [none] := by kernel_rfl
@[simp] theorem fact224 : tplaces PP 32 = none := by kernel_rfl
@[simp] theorem fact225 : PP.underlying 32 = some (TypeDesc.func #[25] #[29, 30] false) := by kernel_rfl
@[simp] theorem fact226 : tinfo PP 33 = some (false, 1) := by kernel_rfl
@[simp] theorem fact227 : tarray PP 33 = none := by kernel_rfl
@[simp] theorem fact228 : zrow PP 33 = some [V.v Value.nilFunc] := by kernel_rfl
@[simp] theorem fact229 : tzero PP 33 = some [Value.nilFunc] := by kernel_rfl
@[simp] theorem fact230 : tslots PP 33 = [none] := by kernel_rfl
@[simp] theorem fact231 : tplaces PP 33 = none := by kernel_rfl
@[simp] theorem fact232 : PP.underlying 33 = some (TypeDesc.func #[2, 2, 2] #[30] false) := by kernel_rfl
@[simp] theorem fact233 : tinfo PP 34 = some (true, 5) := by kernel_rfl
@[simp] theorem fact234 : tarray PP 34 = none := by kernel_rfl
@[simp] theorem fact235 : zrow PP 34 = some [V.v (Value.int IntKind.i64 (0)), V.v (Value.int IntKind.i64 (0)), V.v (Value.int IntKind.i64 (0)), V.v (Value.int IntKind.i64 (0)), V.own 1 []] := by kernel_rfl
@[simp] theorem fact236 : tzero PP 34 = some [Value.int IntKind.i64 (0), Value.int IntKind.i64 (0), Value.int IntKind.i64 (0), Value.int IntKind.i64 (0), Value.slice none 0 0] := by kernel_rfl
@[simp] theorem fact237 : tslots PP 34 = [none, none, none, none, some 1] := by kernel_rfl
@[simp] theorem fact238 : tplaces PP 34 = some [(0, 1), (1, 1), (2, 1), (3, 1), (4, 1)] := by kernel_rfl
@[simp] theorem fact239 : tinfo PP 35 = some (true, 5) := by kernel_rfl
@[simp] theorem fact240 : tarray PP 35 = none := by kernel_rfl
@[simp] theorem fact241 : zrow PP 35 = some [V.v (Value.int IntKind.i64 (0)), V.v (Value.int IntKind.i64 (0)), V.v (Value.int IntKind.i64 (0)), V.v (Value.int IntKind.i64 (0)), V.own 1 []] := by kernel_rfl
@[simp] theorem fact242 : tzero PP 35 = some [Value.int IntKind.i64 (0), Value.int IntKind.i64 (0), Value.int IntKind.i64 (0), Value.int IntKind.i64 (0), Value.slice none 0 0] := by kernel_rfl
@[simp] theorem fact243 : tslots PP 35 = [none, none, none, none, some 1] := by kernel_rfl
@[simp] theorem fact244 : tplaces PP 35 = some [(0, 1), (1, 1), (2, 1), (3, 1), (4, 1)] := by kernel_rfl
@[simp] theorem fact245 : tinfo PP 36 = some (false, 1) := by kernel_rfl
@[simp] theorem fact246 : tarray PP 36 = none := by kernel_rfl
@[simp] theorem fact247 : tzero PP 36 = some [Value.tuple #[Value.agg #[Value.int IntKind.i64 (0), Value.int IntKind.i64 (0), Value.int IntKind.i64 (0), Value.int IntKind.i64 (0), Value.slice none 0 0], Value.bool false]] := by kernel_rfl
@[simp] theorem fact248 : tslots PP 36 = [none] := by kernel_rfl
@[simp] theorem fact249 : tplaces PP 36 = none := by kernel_rfl
@[simp] theorem fact250 : PP.underlying 36 = some (TypeDesc.tuple #[35, 4]) := by kernel_rfl
@[simp] theorem fact251 : tinfo PP 37 = some (false, 1) := by kernel_rfl
@[simp] theorem fact252 : tarray PP 37 = none := by kernel_rfl
@[simp] theorem fact253 : zrow PP 37 = some [V.v Value.nilFunc] := by kernel_rfl
@[simp] theorem fact254 : tzero PP 37 = some [Value.nilFunc] := by kernel_rfl
@[simp] theorem fact255 : tslots PP 37 = [none] := by kernel_rfl
@[simp] theorem fact256 : tplaces PP 37 = none := by kernel_rfl
@[simp] theorem fact257 : PP.underlying 37 = some (TypeDesc.func #[29, 26] #[35, 4] false) := by kernel_rfl
@[simp] theorem fact258 : tinfo PP 38 = some (false, 1) := by kernel_rfl
@[simp] theorem fact259 : tarray PP 38 = none := by kernel_rfl
@[simp] theorem fact260 : zrow PP 38 = some [V.v Value.nilFunc] := by kernel_rfl
@[simp] theorem fact261 : tzero PP 38 = some [Value.nilFunc] := by kernel_rfl
@[simp] theorem fact262 : tslots PP 38 = [none] := by kernel_rfl
@[simp] theorem fact263 : tplaces PP 38 = none := by kernel_rfl
@[simp] theorem fact264 : PP.underlying 38 = some (TypeDesc.func #[27, 27] #[4] false) := by kernel_rfl
@[simp] theorem fact265 : tinfo PP 39 = some (false, 1) := by kernel_rfl
@[simp] theorem fact266 : tarray PP 39 = none := by kernel_rfl
@[simp] theorem fact267 : tzero PP 39 = some [Value.tuple #[Value.slice none 0 0, Value.bool false]] := by kernel_rfl
@[simp] theorem fact268 : tslots PP 39 = [none] := by kernel_rfl
@[simp] theorem fact269 : tplaces PP 39 = none := by kernel_rfl
@[simp] theorem fact270 : PP.underlying 39 = some (TypeDesc.tuple #[22, 4]) := by kernel_rfl
@[simp] theorem fact271 : tinfo PP 40 = some (false, 1) := by kernel_rfl
@[simp] theorem fact272 : tarray PP 40 = none := by kernel_rfl
@[simp] theorem fact273 : zrow PP 40 = some [V.v Value.nilFunc] := by kernel_rfl
@[simp] theorem fact274 : tzero PP 40 = some [Value.nilFunc] := by kernel_rfl
@[simp] theorem fact275 : tslots PP 40 = [none] := by kernel_rfl
@[simp] theorem fact276 : tplaces PP 40 = none := by kernel_rfl
@[simp] theorem fact277 : PP.underlying 40 = some (TypeDesc.func #[2, 2] #[22, 4] false) := by kernel_rfl
@[simp] theorem fact278 : tinfo PP 41 = some (false, 1) := by kernel_rfl
@[simp] theorem fact279 : tarray PP 41 = none := by kernel_rfl
@[simp] theorem fact280 : zrow PP 41 = some [V.v Value.nilFunc] := by kernel_rfl
@[simp] theorem fact281 : tzero PP 41 = some [Value.nilFunc] := by kernel_rfl
@[simp] theorem fact282 : tslots PP 41 = [none] := by kernel_rfl
@[simp] theorem fact283 : tplaces PP 41 = none := by kernel_rfl
@[simp] theorem fact284 : PP.underlying 41 = some (TypeDesc.func #[22, 22] #[4] false) := by kernel_rfl
@[simp] theorem fact285 : tinfo PP 42 = some (false, 1) := by kernel_rfl
@[simp] theorem fact286 : tarray PP 42 = none := by kernel_rfl
@[simp] theorem fact287 : zrow PP 42 = some [V.v Value.nilFunc] := by kernel_rfl
@[simp] theorem fact288 : tzero PP 42 = some [Value.nilFunc] := by kernel_rfl
@[simp] theorem fact289 : tslots PP 42 = [none] := by kernel_rfl
@[simp] theorem fact290 : tplaces PP 42 = none := by kernel_rfl
@[simp] theorem fact291 : PP.underlying 42 = some (TypeDesc.func #[2] #[30] false) := by kernel_rfl
@[simp] theorem fact292 : tinfo PP 43 = some (false, 1) := by kernel_rfl
@[simp] theorem fact293 : tarray PP 43 = none := by kernel_rfl
@[simp] theorem fact294 : zrow PP 43 = some [V.v Value.nilFunc] := by kernel_rfl
@[simp] theorem fact295 : tzero PP 43 = some [Value.nilFunc] := by kernel_rfl
@[simp] theorem fact296 : tslots PP 43 = [none] := by kernel_rfl
@[simp] theorem fact297 : tplaces PP 43 = none := by kernel_rfl
@[simp] theorem fact298 : PP.underlying 43 = some (TypeDesc.func #[25, 26, 27] #[4] false) := by kernel_rfl
@[simp] theorem fact299 : tinfo PP 44 = some (false, 1) := by kernel_rfl
@[simp] theorem fact300 : tarray PP 44 = none := by kernel_rfl
@[simp] theorem fact301 : zrow PP 44 = some [V.v Value.nilFunc] := by kernel_rfl
@[simp] theorem fact302 : tzero PP 44 = some [Value.nilFunc] := by kernel_rfl
@[simp] theorem fact303 : tslots PP 44 = [none] := by kernel_rfl
@[simp] theorem fact304 : tplaces PP 44 = none := by kernel_rfl
@[simp] theorem fact305 : PP.underlying 44 = some (TypeDesc.func #[3] #[35] false) := by kernel_rfl
@[simp] theorem fact306 : tinfo PP 45 = some (false, 1) := by kernel_rfl
@[simp] theorem fact307 : tarray PP 45 = none := by kernel_rfl
@[simp] theorem fact308 : zrow PP 45 = some [V.v Value.nilFunc] := by kernel_rfl
@[simp] theorem fact309 : tzero PP 45 = some [Value.nilFunc] := by kernel_rfl
@[simp] theorem fact310 : tslots PP 45 = [none] := by kernel_rfl
@[simp] theorem fact311 : tplaces PP 45 = none := by kernel_rfl
@[simp] theorem fact312 : PP.underlying 45 = some (TypeDesc.func #[25, 3, 2] #[4] false) := by kernel_rfl
@[simp] theorem fact313 : tinfo PP 46 = some (false, 1) := by kernel_rfl
@[simp] theorem fact314 : tarray PP 46 = none := by kernel_rfl
@[simp] theorem fact315 : zrow PP 46 = some [V.v Value.nilFunc] := by kernel_rfl
@[simp] theorem fact316 : tzero PP 46 = some [Value.nilFunc] := by kernel_rfl
@[simp] theorem fact317 : tslots PP 46 = [none] := by kernel_rfl
@[simp] theorem fact318 : tplaces PP 46 = none := by kernel_rfl
@[simp] theorem fact319 : PP.underlying 46 = some (TypeDesc.func #[65] #[25] true) := by kernel_rfl
@[simp] theorem fact320 : tinfo PP 47 = some (true, 2) := by kernel_rfl
@[simp] theorem fact321 : tarray PP 47 = none := by kernel_rfl
@[simp] theorem fact322 : zrow PP 47 = some [V.v (Value.int IntKind.i64 (0)), V.v (Value.int IntKind.i64 (0))] := by kernel_rfl
@[simp] theorem fact323 : tzero PP 47 = some [Value.int IntKind.i64 (0), Value.int IntKind.i64 (0)] := by kernel_rfl
@[simp] theorem fact324 : tslots PP 47 = [none, none] := by kernel_rfl
@[simp] theorem fact325 : tplaces PP 47 = some [(0, 1), (1, 1)] := by kernel_rfl
@[simp] theorem fact326 : tinfo PP 48 = some (true, 2) := by kernel_rfl
@[simp] theorem fact327 : tarray PP 48 = none := by kernel_rfl
@[simp] theorem fact328 : zrow PP 48 = some [V.v (Value.int IntKind.i64 (0)), V.v (Value.int IntKind.i64 (0))] := by kernel_rfl
@[simp] theorem fact329 : tzero PP 48 = some [Value.int IntKind.i64 (0), Value.int IntKind.i64 (0)] := by kernel_rfl
@[simp] theorem fact330 : tslots PP 48 = [none, none] := by kernel_rfl
@[simp] theorem fact331 : tplaces PP 48 = some [(0, 1), (1, 1)] := by kernel_rfl
@[simp] theorem fact332 : tinfo PP 49 = some (false, 1) := by kernel_rfl
@[simp] theorem fact333 : tarray PP 49 = none := by kernel_rfl
@[simp] theorem fact334 : zrow PP 49 = some [V.v Value.nilFunc] := by kernel_rfl
@[simp] theorem fact335 : tzero PP 49 = some [Value.nilFunc] := by kernel_rfl
@[simp] theorem fact336 : tslots PP 49 = [none] := by kernel_rfl
@[simp] theorem fact337 : tplaces PP 49 = none := by kernel_rfl
@[simp] theorem fact338 : PP.underlying 49 = some (TypeDesc.func #[3, 2] #[48] false) := by kernel_rfl
@[simp] theorem fact339 : tinfo PP 50 = some (false, 1) := by kernel_rfl
@[simp] theorem fact340 : tarray PP 50 = none := by kernel_rfl
@[simp] theorem fact341 : zrow PP 50 = some [V.v (Value.int IntKind.u64 (0))] := by kernel_rfl
@[simp] theorem fact342 : tzero PP 50 = some [Value.int IntKind.u64 (0)] := by kernel_rfl
@[simp] theorem fact343 : tslots PP 50 = [none] := by kernel_rfl
@[simp] theorem fact344 : tplaces PP 50 = none := by kernel_rfl
@[simp] theorem fact345 : PP.underlying 50 = some (TypeDesc.int IntKind.u64) := by kernel_rfl
@[simp] theorem fact346 : tinfo PP 51 = some (false, 1) := by kernel_rfl
@[simp] theorem fact347 : tarray PP 51 = none := by kernel_rfl
@[simp] theorem fact348 : zrow PP 51 = some [V.v (Value.int IntKind.u64 (0))] := by kernel_rfl
@[simp] theorem fact349 : tzero PP 51 = some [Value.int IntKind.u64 (0)] := by kernel_rfl
@[simp] theorem fact350 : tslots PP 51 = [none] := by kernel_rfl
@[simp] theorem fact351 : tplaces PP 51 = none := by kernel_rfl
@[simp] theorem fact352 : PP.underlying 51 = some (TypeDesc.int IntKind.u64) := by kernel_rfl
@[simp] theorem fact353 : tinfo PP 52 = some (false, 1) := by kernel_rfl
@[simp] theorem fact354 : tarray PP 52 = none := by kernel_rfl
@[simp] theorem fact355 : zrow PP 52 = some [V.v Value.nilFunc] := by kernel_rfl
@[simp] theorem fact356 : tzero PP 52 = some [Value.nilFunc] := by kernel_rfl
@[simp] theorem fact357 : tslots PP 52 = [none] := by kernel_rfl
@[simp] theorem fact358 : tplaces PP 52 = none := by kernel_rfl
@[simp] theorem fact359 : PP.underlying 52 = some (TypeDesc.func #[22, 2, 5] #[4] false) := by kernel_rfl
@[simp] theorem fact360 : tinfo PP 53 = some (false, 1) := by kernel_rfl
@[simp] theorem fact361 : tarray PP 53 = none := by kernel_rfl
@[simp] theorem fact362 : zrow PP 53 = some [V.v Value.nilFunc] := by kernel_rfl
@[simp] theorem fact363 : tzero PP 53 = some [Value.nilFunc] := by kernel_rfl
@[simp] theorem fact364 : tslots PP 53 = [none] := by kernel_rfl
@[simp] theorem fact365 : tplaces PP 53 = none := by kernel_rfl
@[simp] theorem fact366 : PP.underlying 53 = some (TypeDesc.func #[3, 2, 2] #[4] false) := by kernel_rfl
@[simp] theorem fact367 : tinfo PP 54 = some (false, 1) := by kernel_rfl
@[simp] theorem fact368 : tarray PP 54 = none := by kernel_rfl
@[simp] theorem fact369 : zrow PP 54 = some [V.v Value.nilFunc] := by kernel_rfl
@[simp] theorem fact370 : tzero PP 54 = some [Value.nilFunc] := by kernel_rfl
@[simp] theorem fact371 : tslots PP 54 = [none] := by kernel_rfl
@[simp] theorem fact372 : tplaces PP 54 = none := by kernel_rfl
@[simp] theorem fact373 : PP.underlying 54 = some (TypeDesc.func #[3, 2, 2, 4] #[4] false) := by kernel_rfl
@[simp] theorem fact374 : tinfo PP 55 = some (true, 2) := by kernel_rfl
@[simp] theorem fact375 : tarray PP 55 = none := by kernel_rfl
@[simp] theorem fact376 : zrow PP 55 = some [V.v (Value.int IntKind.i64 (0)), V.v (Value.int IntKind.i64 (0))] := by kernel_rfl
@[simp] theorem fact377 : tzero PP 55 = some [Value.int IntKind.i64 (0), Value.int IntKind.i64 (0)] := by kernel_rfl
@[simp] theorem fact378 : tslots PP 55 = [none, none] := by kernel_rfl
@[simp] theorem fact379 : tplaces PP 55 = some [(0, 1), (1, 1)] := by kernel_rfl
@[simp] theorem fact380 : tinfo PP 56 = some (true, 2) := by kernel_rfl
@[simp] theorem fact381 : tarray PP 56 = none := by kernel_rfl
@[simp] theorem fact382 : zrow PP 56 = some [V.v (Value.int IntKind.i64 (0)), V.v (Value.int IntKind.i64 (0))] := by kernel_rfl
@[simp] theorem fact383 : tzero PP 56 = some [Value.int IntKind.i64 (0), Value.int IntKind.i64 (0)] := by kernel_rfl
@[simp] theorem fact384 : tslots PP 56 = [none, none] := by kernel_rfl
@[simp] theorem fact385 : tplaces PP 56 = some [(0, 1), (1, 1)] := by kernel_rfl
@[simp] theorem fact386 : tinfo PP 57 = some (false, 1) := by kernel_rfl
@[simp] theorem fact387 : tarray PP 57 = none := by kernel_rfl
@[simp] theorem fact388 : tzero PP 57 = some [Value.tuple #[Value.agg #[Value.int IntKind.i64 (0), Value.slice none 0 0, Value.slice none 0 0], Value.agg #[Value.int IntKind.i64 (0), Value.int IntKind.i64 (0)]]] := by kernel_rfl
@[simp] theorem fact389 : tslots PP 57 = [none] := by kernel_rfl
@[simp] theorem fact390 : tplaces PP 57 = none := by kernel_rfl
@[simp] theorem fact391 : PP.underlying 57 = some (TypeDesc.tuple #[25, 56]) := by kernel_rfl
@[simp] theorem fact392 : tinfo PP 58 = some (false, 1) := by kernel_rfl
@[simp] theorem fact393 : tarray PP 58 = none := by kernel_rfl
@[simp] theorem fact394 : zrow PP 58 = some [V.v Value.nilFunc] := by kernel_rfl
@[simp] theorem fact395 : tzero PP 58 = some [Value.nilFunc] := by kernel_rfl
@[simp] theorem fact396 : tslots PP 58 = [none] := by kernel_rfl
@[simp] theorem fact397 : tplaces PP 58 = none := by kernel_rfl
@[simp] theorem fact398 : PP.underlying 58 = some (TypeDesc.func #[22] #[25, 56] false) := by kernel_rfl
@[simp] theorem fact399 : tinfo PP 59 = some (false, 1) := by kernel_rfl
@[simp] theorem fact400 : tarray PP 59 = none := by kernel_rfl
@[simp] theorem fact401 : tzero PP 59 = some [Value.tuple #[Value.slice none 0 0, Value.int IntKind.i64 (0)]] := by kernel_rfl
@[simp] theorem fact402 : tslots PP 59 = [none] := by kernel_rfl
@[simp] theorem fact403 : tplaces PP 59 = none := by kernel_rfl
@[simp] theorem fact404 : PP.underlying 59 = some (TypeDesc.tuple #[22, 30]) := by kernel_rfl
@[simp] theorem fact405 : tinfo PP 60 = some (false, 1) := by kernel_rfl
@[simp] theorem fact406 : tarray PP 60 = none := by kernel_rfl
@[simp] theorem fact407 : zrow PP 60 = some [V.v Value.nilFunc] := by kernel_rfl
@[simp] theorem fact408 : tzero PP 60 = some [Value.nilFunc] := by kernel_rfl
@[simp] theorem fact409 : tslots PP 60 = [none] := by kernel_rfl
@[simp] theorem fact410 : tplaces PP 60 = none := by kernel_rfl
@[simp] theorem fact411 : PP.underlying 60 = some (TypeDesc.func #[25] #[22, 30] false) := by kernel_rfl
@[simp] theorem fact412 : tinfo PP 61 = some (true, 3) := by kernel_rfl
@[simp] theorem fact413 : tarray PP 61 = none := by kernel_rfl
@[simp] theorem fact414 : zrow PP 61 = some [V.v (Value.int IntKind.i64 (0)), V.v (Value.int IntKind.i64 (0)), V.v (Value.int IntKind.i64 (0))] := by kernel_rfl
@[simp] theorem fact415 : tzero PP 61 = some [Value.int IntKind.i64 (0), Value.int IntKind.i64 (0), Value.int IntKind.i64 (0)] := by kernel_rfl
@[simp] theorem fact416 : tslots PP 61 = [none, none, none] := by kernel_rfl
@[simp] theorem fact417 : tplaces PP 61 = some [(0, 1), (1, 1), (2, 1)] := by kernel_rfl
@[simp] theorem fact418 : tinfo PP 62 = some (true, 3) := by kernel_rfl
@[simp] theorem fact419 : tarray PP 62 = none := by kernel_rfl
@[simp] theorem fact420 : zrow PP 62 = some [V.v (Value.int IntKind.i64 (0)), V.v (Value.int IntKind.i64 (0)), V.v (Value.int IntKind.i64 (0))] := by kernel_rfl
@[simp] theorem fact421 : tzero PP 62 = some [Value.int IntKind.i64 (0), Value.int IntKind.i64 (0), Value.int IntKind.i64 (0)] := by kernel_rfl
@[simp] theorem fact422 : tslots PP 62 = [none, none, none] := by kernel_rfl
@[simp] theorem fact423 : tplaces PP 62 = some [(0, 1), (1, 1), (2, 1)] := by kernel_rfl
@[simp] theorem fact424 : tinfo PP 63 = some (false, 1) := by kernel_rfl
@[simp] theorem fact425 : tarray PP 63 = none := by kernel_rfl
@[simp] theorem fact426 : zrow PP 63 = some [V.v Value.nilFunc] := by kernel_rfl
@[simp] theorem fact427 : tzero PP 63 = some [Value.nilFunc] := by kernel_rfl
@[simp] theorem fact428 : tslots PP 63 = [none] := by kernel_rfl
@[simp] theorem fact429 : tplaces PP 63 = none := by kernel_rfl
@[simp] theorem fact430 : PP.underlying 63 = some (TypeDesc.func #[25] #[62] false) := by kernel_rfl
@[simp] theorem fact431 : tinfo PP 64 = some (false, 1) := by kernel_rfl
@[simp] theorem fact432 : tarray PP 64 = none := by kernel_rfl
@[simp] theorem fact433 : zrow PP 64 = some [V.v Value.nilFunc] := by kernel_rfl
@[simp] theorem fact434 : tzero PP 64 = some [Value.nilFunc] := by kernel_rfl
@[simp] theorem fact435 : tslots PP 64 = [none] := by kernel_rfl
@[simp] theorem fact436 : tplaces PP 64 = none := by kernel_rfl
@[simp] theorem fact437 : PP.underlying 64 = some (TypeDesc.func #[22, 2, 2, 26, 27] #[4] false) := by kernel_rfl
@[simp] theorem fact438 : tinfo PP 65 = some (false, 1) := by kernel_rfl
@[simp] theorem fact439 : tslice PP 65 = some (48, 2, 16) := by kernel_rfl
@[simp] theorem fact440 : tarray PP 65 = none := by kernel_rfl
@[simp] theorem fact441 : zrow PP 65 = some [V.own 2 []] := by kernel_rfl
@[simp] theorem fact442 : tzero PP 65 = some [Value.slice none 0 0] := by kernel_rfl
@[simp] theorem fact443 : tslots PP 65 = [some 2] := by kernel_rfl
@[simp] theorem fact444 : tplaces PP 65 = none := by kernel_rfl
@[simp] theorem fact445 : PP.underlying 65 = some (TypeDesc.slice 48) := by kernel_rfl
@[simp] theorem fact446 : tinfo PP 66 = some (false, 1) := by kernel_rfl
@[simp] theorem fact447 : tarray PP 66 = none := by kernel_rfl
@[simp] theorem fact448 : tzero PP 66 = some [Value.tuple #[Value.int IntKind.i64 (0), Value.int IntKind.i64 (0), Value.bool false]] := by kernel_rfl
@[simp] theorem fact449 : tslots PP 66 = [none] := by kernel_rfl
@[simp] theorem fact450 : tplaces PP 66 = none := by kernel_rfl
@[simp] theorem fact451 : PP.underlying 66 = some (TypeDesc.tuple #[3, 3, 4]) := by kernel_rfl
@[simp] theorem fact452 : tinfo PP 67 = some (false, 1) := by kernel_rfl
@[simp] theorem fact453 : tarray PP 67 = none := by kernel_rfl
@[simp] theorem fact454 : zrow PP 67 = some [V.v Value.nilFunc] := by kernel_rfl
@[simp] theorem fact455 : tzero PP 67 = some [Value.nilFunc] := by kernel_rfl
@[simp] theorem fact456 : tslots PP 67 = [none] := by kernel_rfl
@[simp] theorem fact457 : tplaces PP 67 = none := by kernel_rfl
@[simp] theorem fact458 : PP.underlying 67 = some (TypeDesc.func #[25, 3, 48] #[3, 3, 4] false) := by kernel_rfl
@[simp] theorem fact459 : tinfo PP 68 = some (true, 4) := by kernel_rfl
@[simp] theorem fact460 : tarray PP 68 = none := by kernel_rfl
@[simp] theorem fact461 : zrow PP 68 = some [V.v (Value.int IntKind.i64 (0)), V.v (Value.int IntKind.i64 (0)), V.v (Value.int IntKind.i64 (0)), V.own 2 []] := by kernel_rfl
@[simp] theorem fact462 : tzero PP 68 = some [Value.int IntKind.i64 (0), Value.int IntKind.i64 (0), Value.int IntKind.i64 (0), Value.slice none 0 0] := by kernel_rfl
@[simp] theorem fact463 : tslots PP 68 = [none, none, none, some 2] := by kernel_rfl
@[simp] theorem fact464 : tplaces PP 68 = some [(0, 1), (1, 1), (2, 1), (3, 1)] := by kernel_rfl
@[simp] theorem fact465 : tinfo PP 69 = some (true, 4) := by kernel_rfl
@[simp] theorem fact466 : tarray PP 69 = none := by kernel_rfl
@[simp] theorem fact467 : zrow PP 69 = some [V.v (Value.int IntKind.i64 (0)), V.v (Value.int IntKind.i64 (0)), V.v (Value.int IntKind.i64 (0)), V.own 2 []] := by kernel_rfl
@[simp] theorem fact468 : tzero PP 69 = some [Value.int IntKind.i64 (0), Value.int IntKind.i64 (0), Value.int IntKind.i64 (0), Value.slice none 0 0] := by kernel_rfl
@[simp] theorem fact469 : tslots PP 69 = [none, none, none, some 2] := by kernel_rfl
@[simp] theorem fact470 : tplaces PP 69 = some [(0, 1), (1, 1), (2, 1), (3, 1)] := by kernel_rfl
@[simp] theorem fact471 : tinfo PP 70 = some (false, 1) := by kernel_rfl
@[simp] theorem fact472 : tarray PP 70 = none := by kernel_rfl
@[simp] theorem fact473 : zrow PP 70 = some [V.v (Value.pointer none)] := by kernel_rfl
@[simp] theorem fact474 : tzero PP 70 = some [Value.pointer none] := by kernel_rfl
@[simp] theorem fact475 : tslots PP 70 = [none] := by kernel_rfl
@[simp] theorem fact476 : tplaces PP 70 = none := by kernel_rfl
@[simp] theorem fact477 : PP.underlying 70 = some (TypeDesc.pointer 115) := by kernel_rfl
@[simp] theorem fact478 : tinfo PP 71 = some (false, 1) := by kernel_rfl
@[simp] theorem fact479 : tarray PP 71 = none := by kernel_rfl
@[simp] theorem fact480 : zrow PP 71 = some [V.v Value.nilFunc] := by kernel_rfl
@[simp] theorem fact481 : tzero PP 71 = some [Value.nilFunc] := by kernel_rfl
@[simp] theorem fact482 : tslots PP 71 = [none] := by kernel_rfl
@[simp] theorem fact483 : tplaces PP 71 = none := by kernel_rfl
@[simp] theorem fact484 : PP.underlying 71 = some (TypeDesc.func #[] #[70] false) := by kernel_rfl
@[simp] theorem fact485 : tinfo PP 72 = some (false, 1) := by kernel_rfl
@[simp] theorem fact486 : tarray PP 72 = none := by kernel_rfl
@[simp] theorem fact487 : zrow PP 72 = some [V.v Value.nilFunc] := by kernel_rfl
@[simp] theorem fact488 : tzero PP 72 = some [Value.nilFunc] := by kernel_rfl
@[simp] theorem fact489 : tslots PP 72 = [none] := by kernel_rfl
@[simp] theorem fact490 : tplaces PP 72 = none := by kernel_rfl
@[simp] theorem fact491 : PP.underlying 72 = some (TypeDesc.func #[3] #[30] false) := by kernel_rfl
@[simp] theorem fact492 : tinfo PP 73 = some (false, 1) := by kernel_rfl
@[simp] theorem fact493 : tslice PP 73 = some (4, 1, 1) := by kernel_rfl
@[simp] theorem fact494 : tarray PP 73 = none := by kernel_rfl
@[simp] theorem fact495 : zrow PP 73 = some [V.own 1 []] := by kernel_rfl
@[simp] theorem fact496 : tzero PP 73 = some [Value.slice none 0 0] := by kernel_rfl
@[simp] theorem fact497 : tslots PP 73 = [some 1] := by kernel_rfl
@[simp] theorem fact498 : tplaces PP 73 = none := by kernel_rfl
@[simp] theorem fact499 : PP.underlying 73 = some (TypeDesc.slice 4) := by kernel_rfl
@[simp] theorem fact500 : tinfo PP 74 = some (true, 3) := by kernel_rfl
@[simp] theorem fact501 : tarray PP 74 = none := by kernel_rfl
@[simp] theorem fact502 : zrow PP 74 = some [V.v (Value.int IntKind.i64 (0)), V.v (Value.int IntKind.i64 (0)), V.v (Value.int IntKind.i64 (0))] := by kernel_rfl
@[simp] theorem fact503 : tzero PP 74 = some [Value.int IntKind.i64 (0), Value.int IntKind.i64 (0), Value.int IntKind.i64 (0)] := by kernel_rfl
@[simp] theorem fact504 : tslots PP 74 = [none, none, none] := by kernel_rfl
@[simp] theorem fact505 : tplaces PP 74 = some [(0, 1), (1, 1), (2, 1)] := by kernel_rfl
@[simp] theorem fact506 : tinfo PP 75 = some (true, 3) := by kernel_rfl
@[simp] theorem fact507 : tarray PP 75 = none := by kernel_rfl
@[simp] theorem fact508 : zrow PP 75 = some [V.v (Value.int IntKind.i64 (0)), V.v (Value.int IntKind.i64 (0)), V.v (Value.int IntKind.i64 (0))] := by kernel_rfl
@[simp] theorem fact509 : tzero PP 75 = some [Value.int IntKind.i64 (0), Value.int IntKind.i64 (0), Value.int IntKind.i64 (0)] := by kernel_rfl
@[simp] theorem fact510 : tslots PP 75 = [none, none, none] := by kernel_rfl
@[simp] theorem fact511 : tplaces PP 75 = some [(0, 1), (1, 1), (2, 1)] := by kernel_rfl
@[simp] theorem fact512 : tinfo PP 76 = some (true, 10) := by kernel_rfl
@[simp] theorem fact513 : tarray PP 76 = none := by kernel_rfl
@[simp] theorem fact514 : zrow PP 76 = some [V.v (Value.int IntKind.i64 (0)), V.v (Value.int IntKind.i64 (0)), V.v (Value.int IntKind.i64 (0)), V.v (Value.int IntKind.i64 (0)), V.v (Value.int IntKind.i64 (0)), V.v (Value.int IntKind.i32 (0)), V.v (Value.int IntKind.i64 (0)), V.v (Value.int IntKind.i64 (0)), V.v (Value.int IntKind.i64 (0)), V.own 1 []] := by kernel_rfl
@[simp] theorem fact515 : tzero PP 76 = some [Value.int IntKind.i64 (0), Value.int IntKind.i64 (0), Value.int IntKind.i64 (0), Value.int IntKind.i64 (0), Value.int IntKind.i64 (0), Value.int IntKind.i32 (0), Value.int IntKind.i64 (0), Value.int IntKind.i64 (0), Value.int IntKind.i64 (0), Value.slice none 0 0] := by kernel_rfl
@[simp] theorem fact516 : tslots PP 76 = [none, none, none, none, none, none, none, none, none, some 1] := by kernel_rfl
@[simp] theorem fact517 : tplaces PP 76 = some [(0, 1), (1, 1), (2, 1), (3, 1), (4, 1), (5, 1), (6, 3), (9, 1)] := by kernel_rfl
@[simp] theorem fact518 : tinfo PP 77 = some (true, 10) := by kernel_rfl
@[simp] theorem fact519 : tarray PP 77 = none := by kernel_rfl
@[simp] theorem fact520 : zrow PP 77 = some [V.v (Value.int IntKind.i64 (0)), V.v (Value.int IntKind.i64 (0)), V.v (Value.int IntKind.i64 (0)), V.v (Value.int IntKind.i64 (0)), V.v (Value.int IntKind.i64 (0)), V.v (Value.int IntKind.i32 (0)), V.v (Value.int IntKind.i64 (0)), V.v (Value.int IntKind.i64 (0)), V.v (Value.int IntKind.i64 (0)), V.own 1 []] := by kernel_rfl
@[simp] theorem fact521 : tzero PP 77 = some [Value.int IntKind.i64 (0), Value.int IntKind.i64 (0), Value.int IntKind.i64 (0), Value.int IntKind.i64 (0), Value.int IntKind.i64 (0), Value.int IntKind.i32 (0), Value.int IntKind.i64 (0), Value.int IntKind.i64 (0), Value.int IntKind.i64 (0), Value.slice none 0 0] := by kernel_rfl
@[simp] theorem fact522 : tslots PP 77 = [none, none, none, none, none, none, none, none, none, some 1] := by kernel_rfl
@[simp] theorem fact523 : tplaces PP 77 = some [(0, 1), (1, 1), (2, 1), (3, 1), (4, 1), (5, 1), (6, 3), (9, 1)] := by kernel_rfl
@[simp] theorem fact524 : tinfo PP 78 = some (false, 1) := by kernel_rfl
@[simp] theorem fact525 : tarray PP 78 = none := by kernel_rfl
@[simp] theorem fact526 : tzero PP 78 = some [Value.tuple #[Value.agg #[Value.int IntKind.i64 (0), Value.int IntKind.i64 (0), Value.int IntKind.i64 (0), Value.int IntKind.i64 (0), Value.int IntKind.i64 (0), Value.int IntKind.i32 (0), Value.int IntKind.i64 (0), Value.int IntKind.i64 (0), Value.int IntKind.i64 (0), Value.slice none 0 0], Value.int IntKind.i64 (0)]] := by kernel_rfl
@[simp] theorem fact527 : tslots PP 78 = [none] := by kernel_rfl
@[simp] theorem fact528 : tplaces PP 78 = none := by kernel_rfl
@[simp] theorem fact529 : PP.underlying 78 = some (TypeDesc.tuple #[77, 2]) := by kernel_rfl
@[simp] theorem fact530 : tinfo PP 79 = some (false, 1) := by kernel_rfl
@[simp] theorem fact531 : tarray PP 79 = none := by kernel_rfl
@[simp] theorem fact532 : zrow PP 79 = some [V.v Value.nilFunc] := by kernel_rfl
@[simp] theorem fact533 : tzero PP 79 = some [Value.nilFunc] := by kernel_rfl
@[simp] theorem fact534 : tslots PP 79 = [none] := by kernel_rfl
@[simp] theorem fact535 : tplaces PP 79 = none := by kernel_rfl
@[simp] theorem fact536 : PP.underlying 79 = some (TypeDesc.func #[3, 2, 27, 22] #[77, 2] false) := by kernel_rfl
@[simp] theorem fact537 : tinfo PP 80 = some (false, 1) := by kernel_rfl
@[simp] theorem fact538 : tarray PP 80 = none := by kernel_rfl
@[simp] theorem fact539 : zrow PP 80 = some [V.v Value.nilFunc] := by kernel_rfl
@[simp] theorem fact540 : tzero PP 80 = some [Value.nilFunc] := by kernel_rfl
@[simp] theorem fact541 : tslots PP 80 = [none] := by kernel_rfl
@[simp] theorem fact542 : tplaces PP 80 = none := by kernel_rfl
@[simp] theorem fact543 : PP.underlying 80 = some (TypeDesc.func #[3, 3, 4] #[30] false) := by kernel_rfl
@[simp] theorem fact544 : tinfo PP 81 = some (false, 1) := by kernel_rfl
@[simp] theorem fact545 : tarray PP 81 = none := by kernel_rfl
@[simp] theorem fact546 : zrow PP 81 = some [V.v Value.nilFunc] := by kernel_rfl
@[simp] theorem fact547 : tzero PP 81 = some [Value.nilFunc] := by kernel_rfl
@[simp] theorem fact548 : tslots PP 81 = [none] := by kernel_rfl
@[simp] theorem fact549 : tplaces PP 81 = none := by kernel_rfl
@[simp] theorem fact550 : PP.underlying 81 = some (TypeDesc.func #[83] #[3] false) := by kernel_rfl
@[simp] theorem fact551 : tinfo PP 82 = some (true, 4) := by kernel_rfl
@[simp] theorem fact552 : tarray PP 82 = none := by kernel_rfl
@[simp] theorem fact553 : zrow PP 82 = some [V.v (Value.int IntKind.i64 (0)), V.v (Value.int IntKind.i64 (0)), V.v (Value.int IntKind.i64 (0)), V.v (Value.string { data := #[] })] := by kernel_rfl
@[simp] theorem fact554 : tzero PP 82 = some [Value.int IntKind.i64 (0), Value.int IntKind.i64 (0), Value.int IntKind.i64 (0), Value.string { data := #[] }] := by kernel_rfl
@[simp] theorem fact555 : tslots PP 82 = [none, none, none, none] := by kernel_rfl
@[simp] theorem fact556 : tplaces PP 82 = some [(0, 1), (1, 1), (2, 1), (3, 1)] := by kernel_rfl
@[simp] theorem fact557 : tinfo PP 83 = some (true, 4) := by kernel_rfl
@[simp] theorem fact558 : tarray PP 83 = none := by kernel_rfl
@[simp] theorem fact559 : zrow PP 83 = some [V.v (Value.int IntKind.i64 (0)), V.v (Value.int IntKind.i64 (0)), V.v (Value.int IntKind.i64 (0)), V.v (Value.string { data := #[] })] := by kernel_rfl
@[simp] theorem fact560 : tzero PP 83 = some [Value.int IntKind.i64 (0), Value.int IntKind.i64 (0), Value.int IntKind.i64 (0), Value.string { data := #[] }] := by kernel_rfl
@[simp] theorem fact561 : tslots PP 83 = [none, none, none, none] := by kernel_rfl
@[simp] theorem fact562 : tplaces PP 83 = some [(0, 1), (1, 1), (2, 1), (3, 1)] := by kernel_rfl
@[simp] theorem fact563 : tinfo PP 84 = some (false, 1) := by kernel_rfl
@[simp] theorem fact564 : tarray PP 84 = none := by kernel_rfl
@[simp] theorem fact565 : zrow PP 84 = some [V.v Value.nilFunc] := by kernel_rfl
@[simp] theorem fact566 : tzero PP 84 = some [Value.nilFunc] := by kernel_rfl
@[simp] theorem fact567 : tslots PP 84 = [none] := by kernel_rfl
@[simp] theorem fact568 : tplaces PP 84 = none := by kernel_rfl
@[simp] theorem fact569 : PP.underlying 84 = some (TypeDesc.func #[3] #[3] false) := by kernel_rfl
@[simp] theorem fact570 : tinfo PP 85 = some (false, 1) := by kernel_rfl
@[simp] theorem fact571 : tarray PP 85 = none := by kernel_rfl
@[simp] theorem fact572 : zrow PP 85 = some [V.v Value.nilFunc] := by kernel_rfl
@[simp] theorem fact573 : tzero PP 85 = some [Value.nilFunc] := by kernel_rfl
@[simp] theorem fact574 : tslots PP 85 = [none] := by kernel_rfl
@[simp] theorem fact575 : tplaces PP 85 = none := by kernel_rfl
@[simp] theorem fact576 : PP.underlying 85 = some (TypeDesc.func #[3, 27, 26] #[4] false) := by kernel_rfl
@[simp] theorem fact577 : tinfo PP 86 = some (false, 1) := by kernel_rfl
@[simp] theorem fact578 : tslice PP 86 = some (123, 4, 64) := by kernel_rfl
@[simp] theorem fact579 : tarray PP 86 = none := by kernel_rfl
@[simp] theorem fact580 : zrow PP 86 = some [V.own 4 []] := by kernel_rfl
@[simp] theorem fact581 : tzero PP 86 = some [Value.slice none 0 0] := by kernel_rfl
@[simp] theorem fact582 : tslots PP 86 = [some 4] := by kernel_rfl
@[simp] theorem fact583 : tplaces PP 86 = none := by kernel_rfl
@[simp] theorem fact584 : PP.underlying 86 = some (TypeDesc.slice 123) := by kernel_rfl
@[simp] theorem fact585 : tinfo PP 87 = some (true, 9) := by kernel_rfl
@[simp] theorem fact586 : tarray PP 87 = none := by kernel_rfl
@[simp] theorem fact587 : zrow PP 87 = some [V.v (Value.int IntKind.i64 (0)), V.own 1 [], V.own 4 [], V.own 1 [], V.own 4 [], V.v (Value.bool false), V.v (Value.int IntKind.i64 (0)), V.own 1 [], V.v (Value.int IntKind.i64 (0))] := by kernel_rfl
@[simp] theorem fact588 : tzero PP 87 = some [Value.int IntKind.i64 (0), Value.slice none 0 0, Value.slice none 0 0, Value.slice none 0 0, Value.slice none 0 0, Value.bool false, Value.int IntKind.i64 (0), Value.slice none 0 0, Value.int IntKind.i64 (0)] := by kernel_rfl
@[simp] theorem fact589 : tslots PP 87 = [none, some 1, some 4, some 1, some 4, none, none, some 1, none] := by kernel_rfl
@[simp] theorem fact590 : tplaces PP 87 = some [(0, 3), (3, 1), (4, 1), (5, 1), (6, 1), (7, 1), (8, 1)] := by kernel_rfl
@[simp] theorem fact591 : tinfo PP 88 = some (true, 9) := by kernel_rfl
@[simp] theorem fact592 : tarray PP 88 = none := by kernel_rfl
@[simp] theorem fact593 : zrow PP 88 = some [V.v (Value.int IntKind.i64 (0)), V.own 1 [], V.own 4 [], V.own 1 [], V.own 4 [], V.v (Value.bool false), V.v (Value.int IntKind.i64 (0)), V.own 1 [], V.v (Value.int IntKind.i64 (0))] := by kernel_rfl
@[simp] theorem fact594 : tzero PP 88 = some [Value.int IntKind.i64 (0), Value.slice none 0 0, Value.slice none 0 0, Value.slice none 0 0, Value.slice none 0 0, Value.bool false, Value.int IntKind.i64 (0), Value.slice none 0 0, Value.int IntKind.i64 (0)] := by kernel_rfl
@[simp] theorem fact595 : tslots PP 88 = [none, some 1, some 4, some 1, some 4, none, none, some 1, none] := by kernel_rfl
@[simp] theorem fact596 : tplaces PP 88 = some [(0, 3), (3, 1), (4, 1), (5, 1), (6, 1), (7, 1), (8, 1)] := by kernel_rfl
@[simp] theorem fact597 : tinfo PP 89 = some (false, 1) := by kernel_rfl
@[simp] theorem fact598 : tarray PP 89 = none := by kernel_rfl
@[simp] theorem fact599 : zrow PP 89 = some [V.v Value.nilFunc] := by kernel_rfl
@[simp] theorem fact600 : tzero PP 89 = some [Value.nilFunc] := by kernel_rfl
@[simp] theorem fact601 : tslots PP 89 = [none] := by kernel_rfl
@[simp] theorem fact602 : tplaces PP 89 = none := by kernel_rfl
@[simp] theorem fact603 : PP.underlying 89 = some (TypeDesc.func #[65] #[65] false) := by kernel_rfl
@[simp] theorem fact604 : tinfo PP 90 = some (false, 1) := by kernel_rfl
@[simp] theorem fact605 : tarray PP 90 = none := by kernel_rfl
@[simp] theorem fact606 : zrow PP 90 = some [V.v Value.nilFunc] := by kernel_rfl
@[simp] theorem fact607 : tzero PP 90 = some [Value.nilFunc] := by kernel_rfl
@[simp] theorem fact608 : tslots PP 90 = [none] := by kernel_rfl
@[simp] theorem fact609 : tplaces PP 90 = none := by kernel_rfl
@[simp] theorem fact610 : PP.underlying 90 = some (TypeDesc.func #[3, 27] #[] false) := by kernel_rfl
@[simp] theorem fact611 : tinfo PP 91 = some (false, 1) := by kernel_rfl
@[simp] theorem fact612 : tarray PP 91 = none := by kernel_rfl
@[simp] theorem fact613 : zrow PP 91 = some [V.v Value.nilFunc] := by kernel_rfl
@[simp] theorem fact614 : tzero PP 91 = some [Value.nilFunc] := by kernel_rfl
@[simp] theorem fact615 : tslots PP 91 = [none] := by kernel_rfl
@[simp] theorem fact616 : tplaces PP 91 = none := by kernel_rfl
@[simp] theorem fact617 : PP.underlying 91 = some (TypeDesc.func #[22] #[22] false) := by kernel_rfl
@[simp] theorem fact618 : tinfo PP 92 = some (false, 1) := by kernel_rfl
@[simp] theorem fact619 : tarray PP 92 = none := by kernel_rfl
@[simp] theorem fact620 : zrow PP 92 = some [V.v (Value.pointer none)] := by kernel_rfl
@[simp] theorem fact621 : tzero PP 92 = some [Value.pointer none] := by kernel_rfl
@[simp] theorem fact622 : tslots PP 92 = [none] := by kernel_rfl
@[simp] theorem fact623 : tplaces PP 92 = none := by kernel_rfl
@[simp] theorem fact624 : PP.underlying 92 = some (TypeDesc.pointer 123) := by kernel_rfl
@[simp] theorem fact625 : tinfo PP 93 = some (false, 1) := by kernel_rfl
@[simp] theorem fact626 : tarray PP 93 = none := by kernel_rfl
@[simp] theorem fact627 : zrow PP 93 = some [V.v Value.nilFunc] := by kernel_rfl
@[simp] theorem fact628 : tzero PP 93 = some [Value.nilFunc] := by kernel_rfl
@[simp] theorem fact629 : tslots PP 93 = [none] := by kernel_rfl
@[simp] theorem fact630 : tplaces PP 93 = none := by kernel_rfl
@[simp] theorem fact631 : PP.underlying 93 = some (TypeDesc.func #[] #[92] false) := by kernel_rfl
@[simp] theorem fact632 : tinfo PP 94 = some (false, 1) := by kernel_rfl
@[simp] theorem fact633 : tarray PP 94 = none := by kernel_rfl
@[simp] theorem fact634 : zrow PP 94 = some [V.v Value.nilFunc] := by kernel_rfl
@[simp] theorem fact635 : tzero PP 94 = some [Value.nilFunc] := by kernel_rfl
@[simp] theorem fact636 : tslots PP 94 = [none] := by kernel_rfl
@[simp] theorem fact637 : tplaces PP 94 = none := by kernel_rfl
@[simp] theorem fact638 : PP.underlying 94 = some (TypeDesc.func #[2] #[] false) := by kernel_rfl
@[simp] theorem fact639 : tinfo PP 95 = some (false, 1) := by kernel_rfl
@[simp] theorem fact640 : tarray PP 95 = none := by kernel_rfl
@[simp] theorem fact641 : zrow PP 95 = some [V.v Value.nilFunc] := by kernel_rfl
@[simp] theorem fact642 : tzero PP 95 = some [Value.nilFunc] := by kernel_rfl
@[simp] theorem fact643 : tslots PP 95 = [none] := by kernel_rfl
@[simp] theorem fact644 : tplaces PP 95 = none := by kernel_rfl
@[simp] theorem fact645 : PP.underlying 95 = some (TypeDesc.func #[27] #[27] false) := by kernel_rfl
@[simp] theorem fact646 : tinfo PP 96 = some (false, 1) := by kernel_rfl
@[simp] theorem fact647 : tarray PP 96 = none := by kernel_rfl
@[simp] theorem fact648 : zrow PP 96 = some [V.v (Value.pointer none)] := by kernel_rfl
@[simp] theorem fact649 : tzero PP 96 = some [Value.pointer none] := by kernel_rfl
@[simp] theorem fact650 : tslots PP 96 = [none] := by kernel_rfl
@[simp] theorem fact651 : tplaces PP 96 = none := by kernel_rfl
@[simp] theorem fact652 : PP.underlying 96 = some (TypeDesc.pointer 98) := by kernel_rfl
@[simp] theorem fact653 : tinfo PP 97 = some (true, 3) := by kernel_rfl
@[simp] theorem fact654 : tarray PP 97 = none := by kernel_rfl
@[simp] theorem fact655 : zrow PP 97 = some [V.own 1 [], V.v (Value.int IntKind.i64 (0)), V.v (Value.bool false)] := by kernel_rfl
@[simp] theorem fact656 : tzero PP 97 = some [Value.slice none 0 0, Value.int IntKind.i64 (0), Value.bool false] := by kernel_rfl
@[simp] theorem fact657 : tslots PP 97 = [some 1, none, none] := by kernel_rfl
@[simp] theorem fact658 : tplaces PP 97 = some [(0, 1), (1, 1), (2, 1)] := by kernel_rfl
@[simp] theorem fact659 : tinfo PP 98 = some (true, 3) := by kernel_rfl
@[simp] theorem fact660 : tarray PP 98 = none := by kernel_rfl
@[simp] theorem fact661 : zrow PP 98 = some [V.own 1 [], V.v (Value.int IntKind.i64 (0)), V.v (Value.bool false)] := by kernel_rfl
@[simp] theorem fact662 : tzero PP 98 = some [Value.slice none 0 0, Value.int IntKind.i64 (0), Value.bool false] := by kernel_rfl
@[simp] theorem fact663 : tslots PP 98 = [some 1, none, none] := by kernel_rfl
@[simp] theorem fact664 : tplaces PP 98 = some [(0, 1), (1, 1), (2, 1)] := by kernel_rfl
@[simp] theorem fact665 : tinfo PP 99 = some (false, 1) := by kernel_rfl
@[simp] theorem fact666 : tarray PP 99 = none := by kernel_rfl
@[simp] theorem fact667 : zrow PP 99 = some [V.v Value.nilFunc] := by kernel_rfl
@[simp] theorem fact668 : tzero PP 99 = some [Value.nilFunc] := by kernel_rfl
@[simp] theorem fact669 : tslots PP 99 = [none] := by kernel_rfl
@[simp] theorem fact670 : tplaces PP 99 = none := by kernel_rfl
@[simp] theorem fact671 : PP.underlying 99 = some (TypeDesc.func #[3, 3] #[3] false) := by kernel_rfl
@[simp] theorem fact672 : tinfo PP 100 = some (false, 1) := by kernel_rfl
@[simp] theorem fact673 : tarray PP 100 = none := by kernel_rfl
@[simp] theorem fact674 : zrow PP 100 = some [V.v Value.nilFunc] := by kernel_rfl
@[simp] theorem fact675 : tzero PP 100 = some [Value.nilFunc] := by kernel_rfl
@[simp] theorem fact676 : tslots PP 100 = [none] := by kernel_rfl
@[simp] theorem fact677 : tplaces PP 100 = none := by kernel_rfl
@[simp] theorem fact678 : PP.underlying 100 = some (TypeDesc.func #[] #[69] false) := by kernel_rfl
@[simp] theorem fact679 : tinfo PP 101 = some (false, 1) := by kernel_rfl
@[simp] theorem fact680 : tarray PP 101 = none := by kernel_rfl
@[simp] theorem fact681 : zrow PP 101 = some [V.v Value.nilFunc] := by kernel_rfl
@[simp] theorem fact682 : tzero PP 101 = some [Value.nilFunc] := by kernel_rfl
@[simp] theorem fact683 : tslots PP 101 = [none] := by kernel_rfl
@[simp] theorem fact684 : tplaces PP 101 = none := by kernel_rfl
@[simp] theorem fact685 : PP.underlying 101 = some (TypeDesc.func #[25] #[4] false) := by kernel_rfl
@[simp] theorem fact686 : tinfo PP 102 = some (false, 1) := by kernel_rfl
@[simp] theorem fact687 : tarray PP 102 = none := by kernel_rfl
@[simp] theorem fact688 : zrow PP 102 = some [V.v Value.nilFunc] := by kernel_rfl
@[simp] theorem fact689 : tzero PP 102 = some [Value.nilFunc] := by kernel_rfl
@[simp] theorem fact690 : tslots PP 102 = [none] := by kernel_rfl
@[simp] theorem fact691 : tplaces PP 102 = none := by kernel_rfl
@[simp] theorem fact692 : PP.underlying 102 = some (TypeDesc.func #[3] #[4] false) := by kernel_rfl
@[simp] theorem fact693 : tinfo PP 103 = some (false, 1) := by kernel_rfl
@[simp] theorem fact694 : tarray PP 103 = none := by kernel_rfl
@[simp] theorem fact695 : zrow PP 103 = some [V.v Value.nilFunc] := by kernel_rfl
@[simp] theorem fact696 : tzero PP 103 = some [Value.nilFunc] := by kernel_rfl
@[simp] theorem fact697 : tslots PP 103 = [none] := by kernel_rfl
@[simp] theorem fact698 : tplaces PP 103 = none := by kernel_rfl
@[simp] theorem fact699 : PP.underlying 103 = some (TypeDesc.func #[22, 2] #[22] false) := by kernel_rfl
@[simp] theorem fact700 : tinfo PP 104 = some (false, 1) := by kernel_rfl
@[simp] theorem fact701 : tarray PP 104 = none := by kernel_rfl
@[simp] theorem fact702 : zrow PP 104 = some [V.v Value.nilFunc] := by kernel_rfl
@[simp] theorem fact703 : tzero PP 104 = some [Value.nilFunc] := by kernel_rfl
@[simp] theorem fact704 : tslots PP 104 = [none] := by kernel_rfl
@[simp] theorem fact705 : tplaces PP 104 = none := by kernel_rfl
@[simp] theorem fact706 : PP.underlying 104 = some (TypeDesc.func #[25, 3] #[3] false) := by kernel_rfl
@[simp] theorem fact707 : tinfo PP 105 = some (false, 1) := by kernel_rfl
@[simp] theorem fact708 : tarray PP 105 = none := by kernel_rfl
@[simp] theorem fact709 : tzero PP 105 = some [Value.tuple #[Value.slice none 0 0, Value.bool false]] := by kernel_rfl
@[simp] theorem fact710 : tslots PP 105 = [none] := by kernel_rfl
@[simp] theorem fact711 : tplaces PP 105 = none := by kernel_rfl
@[simp] theorem fact712 : PP.underlying 105 = some (TypeDesc.tuple #[26, 4]) := by kernel_rfl
@[simp] theorem fact713 : tinfo PP 106 = some (false, 1) := by kernel_rfl
@[simp] theorem fact714 : tarray PP 106 = none := by kernel_rfl
@[simp] theorem fact715 : zrow PP 106 = some [V.v Value.nilFunc] := by kernel_rfl
@[simp] theorem fact716 : tzero PP 106 = some [Value.nilFunc] := by kernel_rfl
@[simp] theorem fact717 : tslots PP 106 = [none] := by kernel_rfl
@[simp] theorem fact718 : tplaces PP 106 = none := by kernel_rfl
@[simp] theorem fact719 : PP.underlying 106 = some (TypeDesc.func #[25, 3] #[26, 4] false) := by kernel_rfl
@[simp] theorem fact720 : tinfo PP 107 = some (false, 1) := by kernel_rfl
@[simp] theorem fact721 : tarray PP 107 = none := by kernel_rfl
@[simp] theorem fact722 : zrow PP 107 = some [V.v Value.nilFunc] := by kernel_rfl
@[simp] theorem fact723 : tzero PP 107 = some [Value.nilFunc] := by kernel_rfl
@[simp] theorem fact724 : tslots PP 107 = [none] := by kernel_rfl
@[simp] theorem fact725 : tplaces PP 107 = none := by kernel_rfl
@[simp] theorem fact726 : PP.underlying 107 = some (TypeDesc.func #[25, 2] #[4] false) := by kernel_rfl
@[simp] theorem fact727 : tinfo PP 108 = some (false, 1) := by kernel_rfl
@[simp] theorem fact728 : tarray PP 108 = none := by kernel_rfl
@[simp] theorem fact729 : zrow PP 108 = some [V.v Value.nilFunc] := by kernel_rfl
@[simp] theorem fact730 : tzero PP 108 = some [Value.nilFunc] := by kernel_rfl
@[simp] theorem fact731 : tslots PP 108 = [none] := by kernel_rfl
@[simp] theorem fact732 : tplaces PP 108 = none := by kernel_rfl
@[simp] theorem fact733 : PP.underlying 108 = some (TypeDesc.func #[2] #[3] false) := by kernel_rfl
@[simp] theorem fact734 : tinfo PP 109 = some (true, 9) := by kernel_rfl
@[simp] theorem fact735 : tarray PP 109 = some (9, 4, 1) := by kernel_rfl
@[simp] theorem fact736 : zrow PP 109 = some [V.v (Value.bool false), V.v (Value.bool false), V.v (Value.bool false), V.v (Value.bool false), V.v (Value.bool false), V.v (Value.bool false), V.v (Value.bool false), V.v (Value.bool false), V.v (Value.bool false)] := by kernel_rfl
@[simp] theorem fact737 : tzero PP 109 = some [Value.bool false, Value.bool false, Value.bool false, Value.bool false, Value.bool false, Value.bool false, Value.bool false, Value.bool false, Value.bool false] := by kernel_rfl
@[simp] theorem fact738 : tslots PP 109 = [none, none, none, none, none, none, none, none, none] := by kernel_rfl
@[simp] theorem fact739 : tplaces PP 109 = none := by kernel_rfl
@[simp] theorem fact740 : PP.underlying 109 = some (TypeDesc.array 9 4) := by kernel_rfl
@[simp] theorem fact741 : tinfo PP 110 = some (false, 1) := by kernel_rfl
@[simp] theorem fact742 : tslice PP 110 = some (83, 4, 40) := by kernel_rfl
@[simp] theorem fact743 : tarray PP 110 = none := by kernel_rfl
@[simp] theorem fact744 : zrow PP 110 = some [V.own 4 []] := by kernel_rfl
@[simp] theorem fact745 : tzero PP 110 = some [Value.slice none 0 0] := by kernel_rfl
@[simp] theorem fact746 : tslots PP 110 = [some 4] := by kernel_rfl
@[simp] theorem fact747 : tplaces PP 110 = none := by kernel_rfl
@[simp] theorem fact748 : PP.underlying 110 = some (TypeDesc.slice 83) := by kernel_rfl
@[simp] theorem fact749 : tinfo PP 111 = some (true, 12) := by kernel_rfl
@[simp] theorem fact750 : tarray PP 111 = none := by kernel_rfl
@[simp] theorem fact751 : zrow PP 111 = some [V.v (Value.bool false), V.v (Value.bool false), V.v (Value.bool false), V.v (Value.bool false), V.v (Value.bool false), V.v (Value.bool false), V.v (Value.bool false), V.v (Value.bool false), V.v (Value.bool false), V.v (Value.bool false), V.own 4 [], V.v (Value.int IntKind.i64 (0))] := by kernel_rfl
@[simp] theorem fact752 : tzero PP 111 = some [Value.bool false, Value.bool false, Value.bool false, Value.bool false, Value.bool false, Value.bool false, Value.bool false, Value.bool false, Value.bool false, Value.bool false, Value.slice none 0 0, Value.int IntKind.i64 (0)] := by kernel_rfl
@[simp] theorem fact753 : tslots PP 111 = [none, none, none, none, none, none, none, none, none, none, some 4, none] := by kernel_rfl
@[simp] theorem fact754 : tplaces PP 111 = some [(0, 1), (1, 9), (10, 1), (11, 1)] := by kernel_rfl
@[simp] theorem fact755 : tinfo PP 112 = some (true, 12) := by kernel_rfl
@[simp] theorem fact756 : tarray PP 112 = none := by kernel_rfl
@[simp] theorem fact757 : zrow PP 112 = some [V.v (Value.bool false), V.v (Value.bool false), V.v (Value.bool false), V.v (Value.bool false), V.v (Value.bool false), V.v (Value.bool false), V.v (Value.bool false), V.v (Value.bool false), V.v (Value.bool false), V.v (Value.bool false), V.own 4 [], V.v (Value.int IntKind.i64 (0))] := by kernel_rfl
@[simp] theorem fact758 : tzero PP 112 = some [Value.bool false, Value.bool false, Value.bool false, Value.bool false, Value.bool false, Value.bool false, Value.bool false, Value.bool false, Value.bool false, Value.bool false, Value.slice none 0 0, Value.int IntKind.i64 (0)] := by kernel_rfl
@[simp] theorem fact759 : tslots PP 112 = [none, none, none, none, none, none, none, none, none, none, some 4, none] := by kernel_rfl
@[simp] theorem fact760 : tplaces PP 112 = some [(0, 1), (1, 9), (10, 1), (11, 1)] := by kernel_rfl
@[simp] theorem fact761 : tinfo PP 113 = some (true, 60) := by kernel_rfl
@[simp] theorem fact762 : tarray PP 113 = some (5, 112, 12) := by kernel_rfl
@[simp] theorem fact763 : zrow PP 113 = some [V.v (Value.bool false), V.v (Value.bool false), V.v (Value.bool false), V.v (Value.bool false), V.v (Value.bool false), V.v (Value.bool false), V.v (Value.bool false), V.v (Value.bool false), V.v (Value.bool false), V.v (Value.bool false), V.own 4 [], V.v (Value.int IntKind.i64 (0)), V.v (Value.bool false), V.v (Value.bool false), V.v (Value.bool false), V.v (Value.bool false), V.v (Value.bool false), V.v (Value.bool false), V.v (Value.bool false), V.v (Value.bool false), V.v (Value.bool false), V.v (Value.bool false), V.own 4 [], V.v (Value.int IntKind.i64 (0)), V.v (Value.bool false), V.v (Value.bool false), V.v (Value.bool false), V.v (Value.bool false), V.v (Value.bool false), V.v (Value.bool false), V.v (Value.bool false), V.v (Value.bool false), V.v (Value.bool false), V.v (Value.bool false), V.own 4 [], V.v (Value.int IntKind.i64 (0)), V.v (Value.bool false), V.v (Value.bool false), V.v (Value.bool false), V.v (Value.bool false), V.v (Value.bool false), V.v (Value.bool false), V.v (Value.bool false), V.v (Value.bool false), V.v (Value.bool false), V.v (Value.bool false), V.own 4 [], V.v (Value.int IntKind.i64 (0)), V.v (Value.bool false), V.v (Value.bool false), V.v (Value.bool false), V.v (Value.bool false), V.v (Value.bool false), V.v (Value.bool false), V.v (Value.bool false), V.v (Value.bool false), V.v (Value.bool false), V.v (Value.bool false), V.own 4 [], V.v (Value.int IntKind.i64 (0))] := by kernel_rfl
@[simp] theorem fact764 : tzero PP 113 = some [Value.bool false, Value.bool false, Value.bool false, Value.bool false, Value.bool false, Value.bool false, Value.bool false, Value.bool false, Value.bool false, Value.bool false, Value.slice none 0 0, Value.int IntKind.i64 (0), Value.bool false, Value.bool false, Value.bool false, Value.bool false, Value.bool false, Value.bool false, Value.bool false, Value.bool false, Value.bool false, Value.bool false, Value.slice none 0 0, Value.int IntKind.i64 (0), Value.bool false, Value.bool false, Value.bool false, Value.bool false, Value.bool false, Value.bool false, Value.bool false, Value.bool false, Value.bool false, Value.bool false, Value.slice none 0 0, Value.int IntKind.i64 (0), Value.bool false, Value.bool false, Value.bool false, Value.bool false, Value.bool false, Value.bool false, Value.bool false, Value.bool false, Value.bool false, Value.bool false, Value.slice none 0 0, Value.int IntKind.i64 (0), Value.bool false, Value.bool false, Value.bool false, Value.bool false, Value.bool false, Value.bool false, Value.bool false, Value.bool false, Value.bool false, Value.bool false, Value.slice none 0 0, Value.int IntKind.i64 (0)] := by kernel_rfl
@[simp] theorem fact765 : tslots PP 113 = [none, none, none, none, none, none, none, none, none, none, some 4, none, none, none, none, none, none, none, none, none, none, none, some 4, none, none, none, none, none, none, none, none, none, none, none, some 4, none, none, none, none, none, none, none, none, none, none, none, some 4, none, none, none, none, none, none, none, none, none, none, none, some 4, none] := by kernel_rfl
@[simp] theorem fact766 : tplaces PP 113 = none := by kernel_rfl
@[simp] theorem fact767 : PP.underlying 113 = some (TypeDesc.array 5 112) := by kernel_rfl
@[simp] theorem fact768 : tinfo PP 114 = some (true, 60) := by kernel_rfl
@[simp] theorem fact769 : tarray PP 114 = none := by kernel_rfl
@[simp] theorem fact770 : zrow PP 114 = some [V.v (Value.bool false), V.v (Value.bool false), V.v (Value.bool false), V.v (Value.bool false), V.v (Value.bool false), V.v (Value.bool false), V.v (Value.bool false), V.v (Value.bool false), V.v (Value.bool false), V.v (Value.bool false), V.own 4 [], V.v (Value.int IntKind.i64 (0)), V.v (Value.bool false), V.v (Value.bool false), V.v (Value.bool false), V.v (Value.bool false), V.v (Value.bool false), V.v (Value.bool false), V.v (Value.bool false), V.v (Value.bool false), V.v (Value.bool false), V.v (Value.bool false), V.own 4 [], V.v (Value.int IntKind.i64 (0)), V.v (Value.bool false), V.v (Value.bool false), V.v (Value.bool false), V.v (Value.bool false), V.v (Value.bool false), V.v (Value.bool false), V.v (Value.bool false), V.v (Value.bool false), V.v (Value.bool false), V.v (Value.bool false), V.own 4 [], V.v (Value.int IntKind.i64 (0)), V.v (Value.bool false), V.v (Value.bool false), V.v (Value.bool false), V.v (Value.bool false), V.v (Value.bool false), V.v (Value.bool false), V.v (Value.bool false), V.v (Value.bool false), V.v (Value.bool false), V.v (Value.bool false), V.own 4 [], V.v (Value.int IntKind.i64 (0)), V.v (Value.bool false), V.v (Value.bool false), V.v (Value.bool false), V.v (Value.bool false), V.v (Value.bool false), V.v (Value.bool false), V.v (Value.bool false), V.v (Value.bool false), V.v (Value.bool false), V.v (Value.bool false), V.own 4 [], V.v (Value.int IntKind.i64 (0))] := by kernel_rfl
@[simp] theorem fact771 : tzero PP 114 = some [Value.bool false, Value.bool false, Value.bool false, Value.bool false, Value.bool false, Value.bool false, Value.bool false, Value.bool false, Value.bool false, Value.bool false, Value.slice none 0 0, Value.int IntKind.i64 (0), Value.bool false, Value.bool false, Value.bool false, Value.bool false, Value.bool false, Value.bool false, Value.bool false, Value.bool false, Value.bool false, Value.bool false, Value.slice none 0 0, Value.int IntKind.i64 (0), Value.bool false, Value.bool false, Value.bool false, Value.bool false, Value.bool false, Value.bool false, Value.bool false, Value.bool false, Value.bool false, Value.bool false, Value.slice none 0 0, Value.int IntKind.i64 (0), Value.bool false, Value.bool false, Value.bool false, Value.bool false, Value.bool false, Value.bool false, Value.bool false, Value.bool false, Value.bool false, Value.bool false, Value.slice none 0 0, Value.int IntKind.i64 (0), Value.bool false, Value.bool false, Value.bool false, Value.bool false, Value.bool false, Value.bool false, Value.bool false, Value.bool false, Value.bool false, Value.bool false, Value.slice none 0 0, Value.int IntKind.i64 (0)] := by kernel_rfl
@[simp] theorem fact772 : tslots PP 114 = [none, none, none, none, none, none, none, none, none, none, some 4, none, none, none, none, none, none, none, none, none, none, none, some 4, none, none, none, none, none, none, none, none, none, none, none, some 4, none, none, none, none, none, none, none, none, none, none, none, some 4, none, none, none, none, none, none, none, none, none, none, none, some 4, none] := by kernel_rfl
@[simp] theorem fact773 : tplaces PP 114 = some [(0, 60)] := by kernel_rfl
@[simp] theorem fact774 : tinfo PP 115 = some (true, 60) := by kernel_rfl
@[simp] theorem fact775 : tarray PP 115 = none := by kernel_rfl
@[simp] theorem fact776 : zrow PP 115 = some [V.v (Value.bool false), V.v (Value.bool false), V.v (Value.bool false), V.v (Value.bool false), V.v (Value.bool false), V.v (Value.bool false), V.v (Value.bool false), V.v (Value.bool false), V.v (Value.bool false), V.v (Value.bool false), V.own 4 [], V.v (Value.int IntKind.i64 (0)), V.v (Value.bool false), V.v (Value.bool false), V.v (Value.bool false), V.v (Value.bool false), V.v (Value.bool false), V.v (Value.bool false), V.v (Value.bool false), V.v (Value.bool false), V.v (Value.bool false), V.v (Value.bool false), V.own 4 [], V.v (Value.int IntKind.i64 (0)), V.v (Value.bool false), V.v (Value.bool false), V.v (Value.bool false), V.v (Value.bool false), V.v (Value.bool false), V.v (Value.bool false), V.v (Value.bool false), V.v (Value.bool false), V.v (Value.bool false), V.v (Value.bool false), V.own 4 [], V.v (Value.int IntKind.i64 (0)), V.v (Value.bool false), V.v (Value.bool false), V.v (Value.bool false), V.v (Value.bool false), V.v (Value.bool false), V.v (Value.bool false), V.v (Value.bool false), V.v (Value.bool false), V.v (Value.bool false), V.v (Value.bool false), V.own 4 [], V.v (Value.int IntKind.i64 (0)), V.v (Value.bool false), V.v (Value.bool false), V.v (Value.bool false), V.v (Value.bool false), V.v (Value.bool false), V.v (Value.bool false), V.v (Value.bool false), V.v (Value.bool false), V.v (Value.bool false), V.v (Value.bool false), V.own 4 [], V.v (Value.int IntKind.i64 (0))] := by kernel_rfl
@[simp] theorem fact777 : tzero PP 115 = some [Value.bool false, Value.bool false, Value.bool false, Value.bool false, Value.bool false, Value.bool false, Value.bool false, Value.bool false, Value.bool false, Value.bool false, Value.slice none 0 0, Value.int IntKind.i64 (0), Value.bool false, Value.bool false, Value.bool false, Value.bool false, Value.bool false, Value.bool false, Value.bool false, Value.bool false, Value.bool false, Value.bool false, Value.slice none 0 0, Value.int IntKind.i64 (0), Value.bool false, Value.bool false, Value.bool false, Value.bool false, Value.bool false, Value.bool false, Value.bool false, Value.bool false, Value.bool false, Value.bool false, Value.slice none 0 0, Value.int IntKind.i64 (0), Value.bool false, Value.bool false, Value.bool false, Value.bool false, Value.bool false, Value.bool false, Value.bool false, Value.bool false, Value.bool false, Value.bool false, Value.slice none 0 0, Value.int IntKind.i64 (0), Value.bool false, Value.bool false, Value.bool false, Value.bool false, Value.bool false, Value.bool false, Value.bool false, Value.bool false, Value.bool false, Value.bool false, Value.slice none 0 0, Value.int IntKind.i64 (0)] := by kernel_rfl
@[simp] theorem fact778 : tslots PP 115 = [none, none, none, none, none, none, none, none, none, none, some 4, none, none, none, none, none, none, none, none, none, none, none, some 4, none, none, none, none, none, none, none, none, none, none, none, some 4, none, none, none, none, none, none, none, none, none, none, none, some 4, none, none, none, none, none, none, none, none, none, none, none, some 4, none] := by kernel_rfl
@[simp] theorem fact779 : tplaces PP 115 = some [(0, 60)] := by kernel_rfl
@[simp] theorem fact780 : tinfo PP 116 = some (false, 1) := by kernel_rfl
@[simp] theorem fact781 : tarray PP 116 = none := by kernel_rfl
@[simp] theorem fact782 : tzero PP 116 = some [Value.tuple #[Value.int IntKind.i64 (0), Value.bool false]] := by kernel_rfl
@[simp] theorem fact783 : tslots PP 116 = [none] := by kernel_rfl
@[simp] theorem fact784 : tplaces PP 116 = none := by kernel_rfl
@[simp] theorem fact785 : PP.underlying 116 = some (TypeDesc.tuple #[3, 4]) := by kernel_rfl
@[simp] theorem fact786 : tinfo PP 117 = some (false, 1) := by kernel_rfl
@[simp] theorem fact787 : tarray PP 117 = none := by kernel_rfl
@[simp] theorem fact788 : zrow PP 117 = some [V.v Value.nilFunc] := by kernel_rfl
@[simp] theorem fact789 : tzero PP 117 = some [Value.nilFunc] := by kernel_rfl
@[simp] theorem fact790 : tslots PP 117 = [none] := by kernel_rfl
@[simp] theorem fact791 : tplaces PP 117 = none := by kernel_rfl
@[simp] theorem fact792 : PP.underlying 117 = some (TypeDesc.func #[2] #[3, 4] false) := by kernel_rfl
@[simp] theorem fact793 : tinfo PP 118 = some (false, 1) := by kernel_rfl
@[simp] theorem fact794 : tarray PP 118 = none := by kernel_rfl
@[simp] theorem fact795 : zrow PP 118 = some [V.v Value.nilFunc] := by kernel_rfl
@[simp] theorem fact796 : tzero PP 118 = some [Value.nilFunc] := by kernel_rfl
@[simp] theorem fact797 : tslots PP 118 = [none] := by kernel_rfl
@[simp] theorem fact798 : tplaces PP 118 = none := by kernel_rfl
@[simp] theorem fact799 : PP.underlying 118 = some (TypeDesc.func #[27] #[4] false) := by kernel_rfl
@[simp] theorem fact800 : tinfo PP 119 = some (false, 1) := by kernel_rfl
@[simp] theorem fact801 : tarray PP 119 = none := by kernel_rfl
@[simp] theorem fact802 : zrow PP 119 = some [V.v (Value.pointer none)] := by kernel_rfl
@[simp] theorem fact803 : tzero PP 119 = some [Value.pointer none] := by kernel_rfl
@[simp] theorem fact804 : tslots PP 119 = [none] := by kernel_rfl
@[simp] theorem fact805 : tplaces PP 119 = none := by kernel_rfl
@[simp] theorem fact806 : PP.underlying 119 = some (TypeDesc.pointer 112) := by kernel_rfl
@[simp] theorem fact807 : tinfo PP 120 = some (false, 1) := by kernel_rfl
@[simp] theorem fact808 : tarray PP 120 = none := by kernel_rfl
@[simp] theorem fact809 : zrow PP 120 = some [V.v Value.nilFunc] := by kernel_rfl
@[simp] theorem fact810 : tzero PP 120 = some [Value.nilFunc] := by kernel_rfl
@[simp] theorem fact811 : tslots PP 120 = [none] := by kernel_rfl
@[simp] theorem fact812 : tplaces PP 120 = none := by kernel_rfl
@[simp] theorem fact813 : PP.underlying 120 = some (TypeDesc.func #[3] #[119] false) := by kernel_rfl
@[simp] theorem fact814 : tinfo PP 121 = some (false, 1) := by kernel_rfl
@[simp] theorem fact815 : tarray PP 121 = none := by kernel_rfl
@[simp] theorem fact816 : zrow PP 121 = some [V.v Value.nilFunc] := by kernel_rfl
@[simp] theorem fact817 : tzero PP 121 = some [Value.nilFunc] := by kernel_rfl
@[simp] theorem fact818 : tslots PP 121 = [none] := by kernel_rfl
@[simp] theorem fact819 : tplaces PP 121 = none := by kernel_rfl
@[simp] theorem fact820 : PP.underlying 121 = some (TypeDesc.func #[83] #[4] false) := by kernel_rfl
@[simp] theorem fact821 : tinfo PP 122 = some (true, 4) := by kernel_rfl
@[simp] theorem fact822 : tarray PP 122 = none := by kernel_rfl
@[simp] theorem fact823 : zrow PP 122 = some [V.v (Value.int IntKind.i64 (0)), V.v (Value.int IntKind.i64 (0)), V.own 1 [], V.own 1 []] := by kernel_rfl
@[simp] theorem fact824 : tzero PP 122 = some [Value.int IntKind.i64 (0), Value.int IntKind.i64 (0), Value.slice none 0 0, Value.slice none 0 0] := by kernel_rfl
@[simp] theorem fact825 : tslots PP 122 = [none, none, some 1, some 1] := by kernel_rfl
@[simp] theorem fact826 : tplaces PP 122 = some [(0, 1), (1, 1), (2, 1), (3, 1)] := by kernel_rfl
@[simp] theorem fact827 : tinfo PP 123 = some (true, 4) := by kernel_rfl
@[simp] theorem fact828 : tarray PP 123 = none := by kernel_rfl
@[simp] theorem fact829 : zrow PP 123 = some [V.v (Value.int IntKind.i64 (0)), V.v (Value.int IntKind.i64 (0)), V.own 1 [], V.own 1 []] := by kernel_rfl
@[simp] theorem fact830 : tzero PP 123 = some [Value.int IntKind.i64 (0), Value.int IntKind.i64 (0), Value.slice none 0 0, Value.slice none 0 0] := by kernel_rfl
@[simp] theorem fact831 : tslots PP 123 = [none, none, some 1, some 1] := by kernel_rfl
@[simp] theorem fact832 : tplaces PP 123 = some [(0, 1), (1, 1), (2, 1), (3, 1)] := by kernel_rfl
@[simp] theorem fact833 : tinfo PP 124 = some (false, 1) := by kernel_rfl
@[simp] theorem fact834 : tarray PP 124 = none := by kernel_rfl
@[simp] theorem fact835 : zrow PP 124 = some [V.v Value.nilFunc] := by kernel_rfl
@[simp] theorem fact836 : tzero PP 124 = some [Value.nilFunc] := by kernel_rfl
@[simp] theorem fact837 : tslots PP 124 = [none] := by kernel_rfl
@[simp] theorem fact838 : tplaces PP 124 = none := by kernel_rfl
@[simp] theorem fact839 : PP.underlying 124 = some (TypeDesc.func #[3] #[27] false) := by kernel_rfl
@[simp] theorem fact840 : tinfo PP 125 = some (false, 1) := by kernel_rfl
@[simp] theorem fact841 : tarray PP 125 = none := by kernel_rfl
@[simp] theorem fact842 : zrow PP 125 = some [V.v Value.nilFunc] := by kernel_rfl
@[simp] theorem fact843 : tzero PP 125 = some [Value.nilFunc] := by kernel_rfl
@[simp] theorem fact844 : tslots PP 125 = [none] := by kernel_rfl
@[simp] theorem fact845 : tplaces PP 125 = none := by kernel_rfl
@[simp] theorem fact846 : PP.underlying 125 = some (TypeDesc.func #[3, 2, 2] #[] false) := by kernel_rfl
@[simp] theorem fact847 : tinfo PP 126 = some (false, 1) := by kernel_rfl
@[simp] theorem fact848 : tarray PP 126 = none := by kernel_rfl
@[simp] theorem fact849 : zrow PP 126 = some [V.v Value.nilFunc] := by kernel_rfl
@[simp] theorem fact850 : tzero PP 126 = some [Value.nilFunc] := by kernel_rfl
@[simp] theorem fact851 : tslots PP 126 = [none] := by kernel_rfl
@[simp] theorem fact852 : tplaces PP 126 = none := by kernel_rfl
@[simp] theorem fact853 : PP.underlying 126 = some (TypeDesc.func #[48, 27] #[] false) := by kernel_rfl
@[simp] theorem fact854 : tinfo PP 127 = some (false, 1) := by kernel_rfl
@[simp] theorem fact855 : tarray PP 127 = none := by kernel_rfl
@[simp] theorem fact856 : zrow PP 127 = some [V.v Value.nilFunc] := by kernel_rfl
@[simp] theorem fact857 : tzero PP 127 = some [Value.nilFunc] := by kernel_rfl
@[simp] theorem fact858 : tslots PP 127 = [none] := by kernel_rfl
@[simp] theorem fact859 : tplaces PP 127 = none := by kernel_rfl
@[simp] theorem fact860 : PP.underlying 127 = some (TypeDesc.func #[] #[2] false) := by kernel_rfl
@[simp] theorem fact861 : tinfo PP 128 = some (false, 1) := by kernel_rfl
@[simp] theorem fact862 : tarray PP 128 = none := by kernel_rfl
@[simp] theorem fact863 : zrow PP 128 = some [V.v Value.nilFunc] := by kernel_rfl
@[simp] theorem fact864 : tzero PP 128 = some [Value.nilFunc] := by kernel_rfl
@[simp] theorem fact865 : tslots PP 128 = [none] := by kernel_rfl
@[simp] theorem fact866 : tplaces PP 128 = none := by kernel_rfl
@[simp] theorem fact867 : PP.underlying 128 = some (TypeDesc.func #[26, 3] #[4] false) := by kernel_rfl
@[simp] theorem fact868 : tinfo PP 129 = some (false, 1) := by kernel_rfl
@[simp] theorem fact869 : tarray PP 129 = none := by kernel_rfl
@[simp] theorem fact870 : zrow PP 129 = some [V.v Value.nilFunc] := by kernel_rfl
@[simp] theorem fact871 : tzero PP 129 = some [Value.nilFunc] := by kernel_rfl
@[simp] theorem fact872 : tslots PP 129 = [none] := by kernel_rfl
@[simp] theorem fact873 : tplaces PP 129 = none := by kernel_rfl
@[simp] theorem fact874 : PP.underlying 129 = some (TypeDesc.func #[3, 48] #[26] false) := by kernel_rfl
@[simp] theorem fact875 : tinfo PP 130 = some (true, 12) := by kernel_rfl
@[simp] theorem fact876 : tarray PP 130 = some (12, 3, 1) := by kernel_rfl
@[simp] theorem fact877 : zrow PP 130 = some [V.v (Value.int IntKind.i64 (0)), V.v (Value.int IntKind.i64 (0)), V.v (Value.int IntKind.i64 (0)), V.v (Value.int IntKind.i64 (0)), V.v (Value.int IntKind.i64 (0)), V.v (Value.int IntKind.i64 (0)), V.v (Value.int IntKind.i64 (0)), V.v (Value.int IntKind.i64 (0)), V.v (Value.int IntKind.i64 (0)), V.v (Value.int IntKind.i64 (0)), V.v (Value.int IntKind.i64 (0)), V.v (Value.int IntKind.i64 (0))] := by kernel_rfl
@[simp] theorem fact878 : tzero PP 130 = some [Value.int IntKind.i64 (0), Value.int IntKind.i64 (0), Value.int IntKind.i64 (0), Value.int IntKind.i64 (0), Value.int IntKind.i64 (0), Value.int IntKind.i64 (0), Value.int IntKind.i64 (0), Value.int IntKind.i64 (0), Value.int IntKind.i64 (0), Value.int IntKind.i64 (0), Value.int IntKind.i64 (0), Value.int IntKind.i64 (0)] := by kernel_rfl
@[simp] theorem fact879 : tslots PP 130 = [none, none, none, none, none, none, none, none, none, none, none, none] := by kernel_rfl
@[simp] theorem fact880 : tplaces PP 130 = none := by kernel_rfl
@[simp] theorem fact881 : PP.underlying 130 = some (TypeDesc.array 12 3) := by kernel_rfl
@[simp] theorem fact882 : tinfo PP 131 = some (true, 10) := by kernel_rfl
@[simp] theorem fact883 : tarray PP 131 = some (10, 3, 1) := by kernel_rfl
@[simp] theorem fact884 : zrow PP 131 = some [V.v (Value.int IntKind.i64 (0)), V.v (Value.int IntKind.i64 (0)), V.v (Value.int IntKind.i64 (0)), V.v (Value.int IntKind.i64 (0)), V.v (Value.int IntKind.i64 (0)), V.v (Value.int IntKind.i64 (0)), V.v (Value.int IntKind.i64 (0)), V.v (Value.int IntKind.i64 (0)), V.v (Value.int IntKind.i64 (0)), V.v (Value.int IntKind.i64 (0))] := by kernel_rfl
@[simp] theorem fact885 : tzero PP 131 = some [Value.int IntKind.i64 (0), Value.int IntKind.i64 (0), Value.int IntKind.i64 (0), Value.int IntKind.i64 (0), Value.int IntKind.i64 (0), Value.int IntKind.i64 (0), Value.int IntKind.i64 (0), Value.int IntKind.i64 (0), Value.int IntKind.i64 (0), Value.int IntKind.i64 (0)] := by kernel_rfl
@[simp] theorem fact886 : tslots PP 131 = [none, none, none, none, none, none, none, none, none, none] := by kernel_rfl
@[simp] theorem fact887 : tplaces PP 131 = none := by kernel_rfl
@[simp] theorem fact888 : PP.underlying 131 = some (TypeDesc.array 10 3) := by kernel_rfl
@[simp] theorem fact889 : tinfo PP 132 = some (false, 1) := by kernel_rfl
@[simp] theorem fact890 : tarray PP 132 = none := by kernel_rfl
@[simp] theorem fact891 : zrow PP 132 = some [V.v (Value.pointer none)] := by kernel_rfl
@[simp] theorem fact892 : tzero PP 132 = some [Value.pointer none] := by kernel_rfl
@[simp] theorem fact893 : tslots PP 132 = [none] := by kernel_rfl
@[simp] theorem fact894 : tplaces PP 132 = none := by kernel_rfl
@[simp] theorem fact895 : PP.underlying 132 = some (TypeDesc.pointer 77) := by kernel_rfl
@[simp] theorem fact896 : tinfo PP 133 = some (false, 1) := by kernel_rfl
@[simp] theorem fact897 : tarray PP 133 = none := by kernel_rfl
@[simp] theorem fact898 : zrow PP 133 = some [V.v Value.nilFunc] := by kernel_rfl
@[simp] theorem fact899 : tzero PP 133 = some [Value.nilFunc] := by kernel_rfl
@[simp] theorem fact900 : tslots PP 133 = [none] := by kernel_rfl
@[simp] theorem fact901 : tplaces PP 133 = none := by kernel_rfl
@[simp] theorem fact902 : PP.underlying 133 = some (TypeDesc.func #[2, 2] #[4] false) := by kernel_rfl
@[simp] theorem fact903 : tinfo PP 134 = some (false, 1) := by kernel_rfl
@[simp] theorem fact904 : tarray PP 134 = none := by kernel_rfl
@[simp] theorem fact905 : zrow PP 134 = some [V.v Value.nilFunc] := by kernel_rfl
@[simp] theorem fact906 : tzero PP 134 = some [Value.nilFunc] := by kernel_rfl
@[simp] theorem fact907 : tslots PP 134 = [none] := by kernel_rfl
@[simp] theorem fact908 : tplaces PP 134 = none := by kernel_rfl
@[simp] theorem fact909 : PP.underlying 134 = some (TypeDesc.func #[2, 2, 2] #[4] false) := by kernel_rfl
@[simp] theorem fact910 : tinfo PP 135 = some (false, 1) := by kernel_rfl
@[simp] theorem fact911 : tarray PP 135 = none := by kernel_rfl
@[simp] theorem fact912 : zrow PP 135 = some [V.v Value.nilFunc] := by kernel_rfl
@[simp] theorem fact913 : tzero PP 135 = some [Value.nilFunc] := by kernel_rfl
@[simp] theorem fact914 : tslots PP 135 = [none] := by kernel_rfl
@[simp] theorem fact915 : tplaces PP 135 = none := by kernel_rfl
@[simp] theorem fact916 : PP.underlying 135 = some (TypeDesc.func #[21] #[3] false) := by kernel_rfl
@[simp] theorem fact917 : tinfo PP 136 = some (false, 1) := by kernel_rfl
@[simp] theorem fact918 : tarray PP 136 = none := by kernel_rfl
@[simp] theorem fact919 : zrow PP 136 = some [V.v Value.nilFunc] := by kernel_rfl
@[simp] theorem fact920 : tzero PP 136 = some [Value.nilFunc] := by kernel_rfl
@[simp] theorem fact921 : tslots PP 136 = [none] := by kernel_rfl
@[simp] theorem fact922 : tplaces PP 136 = none := by kernel_rfl
@[simp] theorem fact923 : PP.underlying 136 = some (TypeDesc.func #[75] #[4] false) := by kernel_rfl
@[simp] theorem fact924 : tinfo PP 137 = some (false, 1) := by kernel_rfl
@[simp] theorem fact925 : tarray PP 137 = none := by kernel_rfl
@[simp] theorem fact926 : zrow PP 137 = some [V.v Value.nilFunc] := by kernel_rfl
@[simp] theorem fact927 : tzero PP 137 = some [Value.nilFunc] := by kernel_rfl
@[simp] theorem fact928 : tslots PP 137 = [none] := by kernel_rfl
@[simp] theorem fact929 : tplaces PP 137 = none := by kernel_rfl
@[simp] theorem fact930 : PP.underlying 137 = some (TypeDesc.func #[4] #[2] false) := by kernel_rfl
@[simp] theorem fact931 : tinfo PP 138 = some (false, 1) := by kernel_rfl
@[simp] theorem fact932 : tarray PP 138 = none := by kernel_rfl
@[simp] theorem fact933 : zrow PP 138 = some [V.v Value.nilFunc] := by kernel_rfl
@[simp] theorem fact934 : tzero PP 138 = some [Value.nilFunc] := by kernel_rfl
@[simp] theorem fact935 : tslots PP 138 = [none] := by kernel_rfl
@[simp] theorem fact936 : tplaces PP 138 = none := by kernel_rfl
@[simp] theorem fact937 : PP.underlying 138 = some (TypeDesc.func #[26, 3] #[3] false) := by kernel_rfl
@[simp] theorem fact938 : tinfo PP 139 = some (false, 1) := by kernel_rfl
@[simp] theorem fact939 : tarray PP 139 = none := by kernel_rfl
@[simp] theorem fact940 : zrow PP 139 = some [V.v Value.nilFunc] := by kernel_rfl
@[simp] theorem fact941 : tzero PP 139 = some [Value.nilFunc] := by kernel_rfl
@[simp] theorem fact942 : tslots PP 139 = [none] := by kernel_rfl
@[simp] theorem fact943 : tplaces PP 139 = none := by kernel_rfl
@[simp] theorem fact944 : PP.underlying 139 = some (TypeDesc.func #[21] #[4] false) := by kernel_rfl
@[simp] theorem fact945 : tinfo PP 140 = some (false, 1) := by kernel_rfl
@[simp] theorem fact946 : tarray PP 140 = none := by kernel_rfl
@[simp] theorem fact947 : zrow PP 140 = some [V.v Value.nilFunc] := by kernel_rfl
@[simp] theorem fact948 : tzero PP 140 = some [Value.nilFunc] := by kernel_rfl
@[simp] theorem fact949 : tslots PP 140 = [none] := by kernel_rfl
@[simp] theorem fact950 : tplaces PP 140 = none := by kernel_rfl
@[simp] theorem fact951 : PP.underlying 140 = some (TypeDesc.func #[21, 143] #[4] true) := by kernel_rfl
@[simp] theorem fact952 : tinfo PP 141 = some (true, 2) := by kernel_rfl
@[simp] theorem fact953 : tarray PP 141 = none := by kernel_rfl
@[simp] theorem fact954 : zrow PP 141 = some [V.v (Value.int IntKind.i32 (0)), V.v (Value.int IntKind.i32 (0))] := by kernel_rfl
@[simp] theorem fact955 : tzero PP 141 = some [Value.int IntKind.i32 (0), Value.int IntKind.i32 (0)] := by kernel_rfl
@[simp] theorem fact956 : tslots PP 141 = [none, none] := by kernel_rfl
@[simp] theorem fact957 : tplaces PP 141 = some [(0, 1), (1, 1)] := by kernel_rfl
@[simp] theorem fact958 : tinfo PP 142 = some (true, 2) := by kernel_rfl
@[simp] theorem fact959 : tarray PP 142 = none := by kernel_rfl
@[simp] theorem fact960 : zrow PP 142 = some [V.v (Value.int IntKind.i32 (0)), V.v (Value.int IntKind.i32 (0))] := by kernel_rfl
@[simp] theorem fact961 : tzero PP 142 = some [Value.int IntKind.i32 (0), Value.int IntKind.i32 (0)] := by kernel_rfl
@[simp] theorem fact962 : tslots PP 142 = [none, none] := by kernel_rfl
@[simp] theorem fact963 : tplaces PP 142 = some [(0, 1), (1, 1)] := by kernel_rfl
@[simp] theorem fact964 : tinfo PP 143 = some (false, 1) := by kernel_rfl
@[simp] theorem fact965 : tslice PP 143 = some (142, 2, 8) := by kernel_rfl
@[simp] theorem fact966 : tarray PP 143 = none := by kernel_rfl
@[simp] theorem fact967 : zrow PP 143 = some [V.own 2 []] := by kernel_rfl
@[simp] theorem fact968 : tzero PP 143 = some [Value.slice none 0 0] := by kernel_rfl
@[simp] theorem fact969 : tslots PP 143 = [some 2] := by kernel_rfl
@[simp] theorem fact970 : tplaces PP 143 = none := by kernel_rfl
@[simp] theorem fact971 : PP.underlying 143 = some (TypeDesc.slice 142) := by kernel_rfl
@[simp] theorem fact972 : tinfo PP 144 = some (false, 1) := by kernel_rfl
@[simp] theorem fact973 : tarray PP 144 = none := by kernel_rfl
@[simp] theorem fact974 : zrow PP 144 = some [V.v Value.nilFunc] := by kernel_rfl
@[simp] theorem fact975 : tzero PP 144 = some [Value.nilFunc] := by kernel_rfl
@[simp] theorem fact976 : tslots PP 144 = [none] := by kernel_rfl
@[simp] theorem fact977 : tplaces PP 144 = none := by kernel_rfl
@[simp] theorem fact978 : PP.underlying 144 = some (TypeDesc.func #[143, 145] #[4] false) := by kernel_rfl
@[simp] theorem fact979 : tinfo PP 145 = some (false, 1) := by kernel_rfl
@[simp] theorem fact980 : tarray PP 145 = none := by kernel_rfl
@[simp] theorem fact981 : zrow PP 145 = some [V.v Value.nilFunc] := by kernel_rfl
@[simp] theorem fact982 : tzero PP 145 = some [Value.nilFunc] := by kernel_rfl
@[simp] theorem fact983 : tslots PP 145 = [none] := by kernel_rfl
@[simp] theorem fact984 : tplaces PP 145 = none := by kernel_rfl
@[simp] theorem fact985 : PP.underlying 145 = some (TypeDesc.func #[142] #[4] false) := by kernel_rfl
@[simp] theorem fact986 : tinfo PP 146 = some (false, 1) := by kernel_rfl
@[simp] theorem fact987 : tarray PP 146 = none := by kernel_rfl
@[simp] theorem fact988 : zrow PP 146 = some [V.v Value.nilFunc] := by kernel_rfl
@[simp] theorem fact989 : tzero PP 146 = some [Value.nilFunc] := by kernel_rfl
@[simp] theorem fact990 : tslots PP 146 = [none] := by kernel_rfl
@[simp] theorem fact991 : tplaces PP 146 = none := by kernel_rfl
@[simp] theorem fact992 : PP.underlying 146 = some (TypeDesc.func #[143, 145] #[3] false) := by kernel_rfl
@[simp] theorem fact993 : tinfo PP 147 = some (false, 1) := by kernel_rfl
@[simp] theorem fact994 : tarray PP 147 = none := by kernel_rfl
@[simp] theorem fact995 : zrow PP 147 = some [V.v Value.nilFunc] := by kernel_rfl
@[simp] theorem fact996 : tzero PP 147 = some [Value.nilFunc] := by kernel_rfl
@[simp] theorem fact997 : tslots PP 147 = [none] := by kernel_rfl
@[simp] theorem fact998 : tplaces PP 147 = none := by kernel_rfl
@[simp] theorem fact999 : PP.underlying 147 = some (TypeDesc.func #[] #[9] false) := by kernel_rfl
@[simp] theorem fact1000 : tinfo PP 148 = some (true, 4) := by kernel_rfl
@[simp] theorem fact1001 : tarray PP 148 = none := by kernel_rfl
@[simp] theorem fact1002 : zrow PP 148 = some [V.v (Value.pointer none), V.v (Value.pointer none), V.v (Value.pointer none), V.v (Value.string { data := #[] })] := by kernel_rfl
@[simp] theorem fact1003 : tzero PP 148 = some [Value.pointer none, Value.pointer none, Value.pointer none, Value.string { data := #[] }] := by kernel_rfl
@[simp] theorem fact1004 : tslots PP 148 = [none, none, none, none] := by kernel_rfl
@[simp] theorem fact1005 : tplaces PP 148 = some [(0, 1), (1, 1), (2, 1), (3, 1)] := by kernel_rfl
@[simp] theorem fact1006 : tinfo PP 149 = some (true, 4) := by kernel_rfl
@[simp] theorem fact1007 : tarray PP 149 = none := by kernel_rfl
@[simp] theorem fact1008 : zrow PP 149 = some [V.v (Value.pointer none), V.v (Value.pointer none), V.v (Value.pointer none), V.v (Value.string { data := #[] })] := by kernel_rfl
@[simp] theorem fact1009 : tzero PP 149 = some [Value.pointer none, Value.pointer none, Value.pointer none, Value.string { data := #[] }] := by kernel_rfl
@[simp] theorem fact1010 : tslots PP 149 = [none, none, none, none] := by kernel_rfl
@[simp] theorem fact1011 : tplaces PP 149 = some [(0, 1), (1, 1), (2, 1), (3, 1)] := by kernel_rfl
@[simp] theorem fact1012 : tinfo PP 150 = some (true, 0) := by kernel_rfl
@[simp] theorem fact1013 : tarray PP 150 = some (0, 16, 1) := by kernel_rfl
@[simp] theorem fact1014 : zrow PP 150 = some [] := by kernel_rfl
@[simp] theorem fact1015 : tzero PP 150 = some [] := by kernel_rfl
@[simp] theorem fact1016 : tslots PP 150 = [] := by kernel_rfl
@[simp] theorem fact1017 : tplaces PP 150 = none := by kernel_rfl
@[simp] theorem fact1018 : PP.underlying 150 = some (TypeDesc.array 0 16) := by kernel_rfl
@[simp] theorem fact1019 : tinfo PP 151 = some (true, 0) := by kernel_rfl
@[simp] theorem fact1020 : tarray PP 151 = none := by kernel_rfl
@[simp] theorem fact1021 : zrow PP 151 = some [] := by kernel_rfl
@[simp] theorem fact1022 : tzero PP 151 = some [] := by kernel_rfl
@[simp] theorem fact1023 : tslots PP 151 = [] := by kernel_rfl
@[simp] theorem fact1024 : tplaces PP 151 = some [(0, 0)] := by kernel_rfl
@[simp] theorem fact1025 : tinfo PP 152 = some (true, 0) := by kernel_rfl
@[simp] theorem fact1026 : tarray PP 152 = none := by kernel_rfl
@[simp] theorem fact1027 : zrow PP 152 = some [] := by kernel_rfl
@[simp] theorem fact1028 : tzero PP 152 = some [] := by kernel_rfl
@[simp] theorem fact1029 : tslots PP 152 = [] := by kernel_rfl
@[simp] theorem fact1030 : tplaces PP 152 = some [(0, 0)] := by kernel_rfl
@[simp] theorem fact1031 : tinfo PP 153 = some (false, 1) := by kernel_rfl
@[simp] theorem fact1032 : tarray PP 153 = none := by kernel_rfl
@[simp] theorem fact1033 : zrow PP 153 = some [V.v Value.nilFunc] := by kernel_rfl
@[simp] theorem fact1034 : tzero PP 153 = some [Value.nilFunc] := by kernel_rfl
@[simp] theorem fact1035 : tslots PP 153 = [none] := by kernel_rfl
@[simp] theorem fact1036 : tplaces PP 153 = none := by kernel_rfl
@[simp] theorem fact1037 : PP.underlying 153 = some (TypeDesc.func #[] #[3] false) := by kernel_rfl
@[simp] theorem fact1038 : tinfo PP 154 = some (false, 1) := by kernel_rfl
@[simp] theorem fact1039 : tarray PP 154 = none := by kernel_rfl
@[simp] theorem fact1040 : zrow PP 154 = some [V.v (Value.int IntKind.u32 (0))] := by kernel_rfl
@[simp] theorem fact1041 : tzero PP 154 = some [Value.int IntKind.u32 (0)] := by kernel_rfl
@[simp] theorem fact1042 : tslots PP 154 = [none] := by kernel_rfl
@[simp] theorem fact1043 : tplaces PP 154 = none := by kernel_rfl
@[simp] theorem fact1044 : PP.underlying 154 = some (TypeDesc.int IntKind.u32) := by kernel_rfl
@[simp] theorem fact1045 : tinfo PP 155 = some (false, 1) := by kernel_rfl
@[simp] theorem fact1046 : tarray PP 155 = none := by kernel_rfl
@[simp] theorem fact1047 : zrow PP 155 = some [V.v (Value.int IntKind.u8 (0))] := by kernel_rfl
@[simp] theorem fact1048 : tzero PP 155 = some [Value.int IntKind.u8 (0)] := by kernel_rfl
@[simp] theorem fact1049 : tslots PP 155 = [none] := by kernel_rfl
@[simp] theorem fact1050 : tplaces PP 155 = none := by kernel_rfl
@[simp] theorem fact1051 : PP.underlying 155 = some (TypeDesc.int IntKind.u8) := by kernel_rfl
@[simp] theorem fact1052 : tinfo PP 156 = some (false, 1) := by kernel_rfl
@[simp] theorem fact1053 : tarray PP 156 = none := by kernel_rfl
@[simp] theorem fact1054 : zrow PP 156 = some [V.v (Value.int IntKind.u8 (0))] := by kernel_rfl
@[simp] theorem fact1055 : tzero PP 156 = some [Value.int IntKind.u8 (0)] := by kernel_rfl
@[simp] theorem fact1056 : tslots PP 156 = [none] := by kernel_rfl
@[simp] theorem fact1057 : tplaces PP 156 = none := by kernel_rfl
@[simp] theorem fact1058 : PP.underlying 156 = some (TypeDesc.int IntKind.u8) := by kernel_rfl
@[simp] theorem fact1059 : tinfo PP 157 = some (false, 1) := by kernel_rfl
@[simp] theorem fact1060 : tarray PP 157 = none := by kernel_rfl
@[simp] theorem fact1061 : zrow PP 157 = some [V.v Value.nilFunc] := by kernel_rfl
@[simp] theorem fact1062 : tzero PP 157 = some [Value.nilFunc] := by kernel_rfl
@[simp] theorem fact1063 : tslots PP 157 = [none] := by kernel_rfl
@[simp] theorem fact1064 : tplaces PP 157 = none := by kernel_rfl
@[simp] theorem fact1065 : PP.underlying 157 = some (TypeDesc.func #[163, 163] #[4] false) := by kernel_rfl
@[simp] theorem fact1066 : tinfo PP 158 = some (false, 1) := by kernel_rfl
@[simp] theorem fact1067 : tarray PP 158 = none := by kernel_rfl
@[simp] theorem fact1068 : zrow PP 158 = some [V.v (Value.pointer none)] := by kernel_rfl
@[simp] theorem fact1069 : tzero PP 158 = some [Value.pointer none] := by kernel_rfl
@[simp] theorem fact1070 : tslots PP 158 = [none] := by kernel_rfl
@[simp] theorem fact1071 : tplaces PP 158 = none := by kernel_rfl
@[simp] theorem fact1072 : PP.underlying 158 = some (TypeDesc.pointer 5) := by kernel_rfl
@[simp] theorem fact1073 : tinfo PP 159 = some (false, 1) := by kernel_rfl
@[simp] theorem fact1074 : tarray PP 159 = none := by kernel_rfl
@[simp] theorem fact1075 : zrow PP 159 = some [V.v (Value.int IntKind.i32 (0))] := by kernel_rfl
@[simp] theorem fact1076 : tzero PP 159 = some [Value.int IntKind.i32 (0)] := by kernel_rfl
@[simp] theorem fact1077 : tslots PP 159 = [none] := by kernel_rfl
@[simp] theorem fact1078 : tplaces PP 159 = none := by kernel_rfl
@[simp] theorem fact1079 : PP.underlying 159 = some (TypeDesc.int IntKind.i32) := by kernel_rfl
@[simp] theorem fact1080 : tinfo PP 160 = some (false, 1) := by kernel_rfl
@[simp] theorem fact1081 : tarray PP 160 = none := by kernel_rfl
@[simp] theorem fact1082 : zrow PP 160 = some [V.v (Value.int IntKind.i32 (0))] := by kernel_rfl
@[simp] theorem fact1083 : tzero PP 160 = some [Value.int IntKind.i32 (0)] := by kernel_rfl
@[simp] theorem fact1084 : tslots PP 160 = [none] := by kernel_rfl
@[simp] theorem fact1085 : tplaces PP 160 = none := by kernel_rfl
@[simp] theorem fact1086 : PP.underlying 160 = some (TypeDesc.int IntKind.i32) := by kernel_rfl
@[simp] theorem fact1087 : tinfo PP 161 = some (true, 11) := by kernel_rfl
@[simp] theorem fact1088 : tarray PP 161 = none := by kernel_rfl
@[simp] theorem fact1089 : zrow PP 161 = some [V.v (Value.int IntKind.u64 (0)), V.v (Value.int IntKind.u64 (0)), V.v (Value.int IntKind.u32 (0)), V.v (Value.int IntKind.u8 (0)), V.v (Value.int IntKind.u8 (0)), V.v (Value.int IntKind.u8 (0)), V.v (Value.int IntKind.u8 (0)), V.v Value.nilFunc, V.v (Value.pointer none), V.v (Value.int IntKind.i32 (0)), V.v (Value.int IntKind.i32 (0))] := by kernel_rfl
@[simp] theorem fact1090 : tzero PP 161 = some [Value.int IntKind.u64 (0), Value.int IntKind.u64 (0), Value.int IntKind.u32 (0), Value.int IntKind.u8 (0), Value.int IntKind.u8 (0), Value.int IntKind.u8 (0), Value.int IntKind.u8 (0), Value.nilFunc, Value.pointer none, Value.int IntKind.i32 (0), Value.int IntKind.i32 (0)] := by kernel_rfl
@[simp] theorem fact1091 : tslots PP 161 = [none, none, none, none, none, none, none, none, none, none, none] := by kernel_rfl
@[simp] theorem fact1092 : tplaces PP 161 = some [(0, 1), (1, 1), (2, 1), (3, 1), (4, 1), (5, 1), (6, 1), (7, 1), (8, 1), (9, 1), (10, 1)] := by kernel_rfl
@[simp] theorem fact1093 : tinfo PP 162 = some (true, 11) := by kernel_rfl
@[simp] theorem fact1094 : tarray PP 162 = none := by kernel_rfl
@[simp] theorem fact1095 : zrow PP 162 = some [V.v (Value.int IntKind.u64 (0)), V.v (Value.int IntKind.u64 (0)), V.v (Value.int IntKind.u32 (0)), V.v (Value.int IntKind.u8 (0)), V.v (Value.int IntKind.u8 (0)), V.v (Value.int IntKind.u8 (0)), V.v (Value.int IntKind.u8 (0)), V.v Value.nilFunc, V.v (Value.pointer none), V.v (Value.int IntKind.i32 (0)), V.v (Value.int IntKind.i32 (0))] := by kernel_rfl
@[simp] theorem fact1096 : tzero PP 162 = some [Value.int IntKind.u64 (0), Value.int IntKind.u64 (0), Value.int IntKind.u32 (0), Value.int IntKind.u8 (0), Value.int IntKind.u8 (0), Value.int IntKind.u8 (0), Value.int IntKind.u8 (0), Value.nilFunc, Value.pointer none, Value.int IntKind.i32 (0), Value.int IntKind.i32 (0)] := by kernel_rfl
@[simp] theorem fact1097 : tslots PP 162 = [none, none, none, none, none, none, none, none, none, none, none] := by kernel_rfl
@[simp] theorem fact1098 : tplaces PP 162 = some [(0, 1), (1, 1), (2, 1), (3, 1), (4, 1), (5, 1), (6, 1), (7, 1), (8, 1), (9, 1), (10, 1)] := by kernel_rfl
@[simp] theorem fact1099 : tinfo PP 163 = some (false, 1) := by kernel_rfl
@[simp] theorem fact1100 : tarray PP 163 = none := by kernel_rfl
@[simp] theorem fact1101 : zrow PP 163 = some [V.v (Value.pointer none)] := by kernel_rfl
@[simp] theorem fact1102 : tzero PP 163 = some [Value.pointer none] := by kernel_rfl
@[simp] theorem fact1103 : tslots PP 163 = [none] := by kernel_rfl
@[simp] theorem fact1104 : tplaces PP 163 = none := by kernel_rfl
@[simp] theorem fact1105 : PP.underlying 163 = some TypeDesc.unsafePointer := by kernel_rfl
@[simp] theorem fact1106 : tfield PP 7 0 = some (0, 2, false, 1) := by kernel_rfl
@[simp] theorem fact1107 : tfield PP 7 1 = some (1, 3, false, 1) := by kernel_rfl
@[simp] theorem fact1108 : tfield PP 7 2 = some (2, 4, false, 1) := by kernel_rfl
@[simp] theorem fact1109 : tfield PP 7 3 = some (3, 6, false, 1) := by kernel_rfl
@[simp] theorem fact1110 : tfield PP 8 0 = some (0, 2, false, 1) := by kernel_rfl
@[simp] theorem fact1111 : tfield PP 8 1 = some (1, 3, false, 1) := by kernel_rfl
@[simp] theorem fact1112 : tfield PP 8 2 = some (2, 4, false, 1) := by kernel_rfl
@[simp] theorem fact1113 : tfield PP 8 3 = some (3, 6, false, 1) := by kernel_rfl
@[simp] theorem fact1114 : tfield PP 13 0 = some (0, 9, false, 1) := by kernel_rfl
@[simp] theorem fact1115 : tfield PP 13 1 = some (1, 12, false, 1) := by kernel_rfl
@[simp] theorem fact1116 : tfield PP 14 0 = some (0, 9, false, 1) := by kernel_rfl
@[simp] theorem fact1117 : tfield PP 14 1 = some (1, 12, false, 1) := by kernel_rfl
@[simp] theorem fact1118 : tfield PP 18 0 = some (0, 17, false, 1) := by kernel_rfl
@[simp] theorem fact1119 : tfield PP 19 0 = some (0, 17, false, 1) := by kernel_rfl
@[simp] theorem fact1120 : tfield PP 24 0 = some (0, 3, false, 1) := by kernel_rfl
@[simp] theorem fact1121 : tfield PP 24 1 = some (1, 22, false, 1) := by kernel_rfl
@[simp] theorem fact1122 : tfield PP 24 2 = some (2, 23, false, 1) := by kernel_rfl
@[simp] theorem fact1123 : tfield PP 25 0 = some (0, 3, false, 1) := by kernel_rfl
@[simp] theorem fact1124 : tfield PP 25 1 = some (1, 22, false, 1) := by kernel_rfl
@[simp] theorem fact1125 : tfield PP 25 2 = some (2, 23, false, 1) := by kernel_rfl
@[simp] theorem fact1126 : tfield PP 34 0 = some (0, 3, false, 1) := by kernel_rfl
@[simp] theorem fact1127 : tfield PP 34 1 = some (1, 3, false, 1) := by kernel_rfl
@[simp] theorem fact1128 : tfield PP 34 2 = some (2, 3, false, 1) := by kernel_rfl
@[simp] theorem fact1129 : tfield PP 34 3 = some (3, 2, false, 1) := by kernel_rfl
@[simp] theorem fact1130 : tfield PP 34 4 = some (4, 27, false, 1) := by kernel_rfl
@[simp] theorem fact1131 : tfield PP 35 0 = some (0, 3, false, 1) := by kernel_rfl
@[simp] theorem fact1132 : tfield PP 35 1 = some (1, 3, false, 1) := by kernel_rfl
@[simp] theorem fact1133 : tfield PP 35 2 = some (2, 3, false, 1) := by kernel_rfl
@[simp] theorem fact1134 : tfield PP 35 3 = some (3, 2, false, 1) := by kernel_rfl
@[simp] theorem fact1135 : tfield PP 35 4 = some (4, 27, false, 1) := by kernel_rfl
@[simp] theorem fact1136 : tfield PP 47 0 = some (0, 3, false, 1) := by kernel_rfl
@[simp] theorem fact1137 : tfield PP 47 1 = some (1, 2, false, 1) := by kernel_rfl
@[simp] theorem fact1138 : tfield PP 48 0 = some (0, 3, false, 1) := by kernel_rfl
@[simp] theorem fact1139 : tfield PP 48 1 = some (1, 2, false, 1) := by kernel_rfl
@[simp] theorem fact1140 : tfield PP 55 0 = some (0, 30, false, 1) := by kernel_rfl
@[simp] theorem fact1141 : tfield PP 55 1 = some (1, 3, false, 1) := by kernel_rfl
@[simp] theorem fact1142 : tfield PP 56 0 = some (0, 30, false, 1) := by kernel_rfl
@[simp] theorem fact1143 : tfield PP 56 1 = some (1, 3, false, 1) := by kernel_rfl
@[simp] theorem fact1144 : tfield PP 61 0 = some (0, 3, false, 1) := by kernel_rfl
@[simp] theorem fact1145 : tfield PP 61 1 = some (1, 3, false, 1) := by kernel_rfl
@[simp] theorem fact1146 : tfield PP 61 2 = some (2, 30, false, 1) := by kernel_rfl
@[simp] theorem fact1147 : tfield PP 62 0 = some (0, 3, false, 1) := by kernel_rfl
@[simp] theorem fact1148 : tfield PP 62 1 = some (1, 3, false, 1) := by kernel_rfl
@[simp] theorem fact1149 : tfield PP 62 2 = some (2, 30, false, 1) := by kernel_rfl
@[simp] theorem fact1150 : tfield PP 68 0 = some (0, 3, false, 1) := by kernel_rfl
@[simp] theorem fact1151 : tfield PP 68 1 = some (1, 3, false, 1) := by kernel_rfl
@[simp] theorem fact1152 : tfield PP 68 2 = some (2, 3, false, 1) := by kernel_rfl
@[simp] theorem fact1153 : tfield PP 68 3 = some (3, 65, false, 1) := by kernel_rfl
@[simp] theorem fact1154 : tfield PP 69 0 = some (0, 3, false, 1) := by kernel_rfl
@[simp] theorem fact1155 : tfield PP 69 1 = some (1, 3, false, 1) := by kernel_rfl
@[simp] theorem fact1156 : tfield PP 69 2 = some (2, 3, false, 1) := by kernel_rfl
@[simp] theorem fact1157 : tfield PP 69 3 = some (3, 65, false, 1) := by kernel_rfl
@[simp] theorem fact1158 : tfield PP 74 0 = some (0, 3, false, 1) := by kernel_rfl
@[simp] theorem fact1159 : tfield PP 74 1 = some (1, 3, false, 1) := by kernel_rfl
@[simp] theorem fact1160 : tfield PP 74 2 = some (2, 3, false, 1) := by kernel_rfl
@[simp] theorem fact1161 : tfield PP 75 0 = some (0, 3, false, 1) := by kernel_rfl
@[simp] theorem fact1162 : tfield PP 75 1 = some (1, 3, false, 1) := by kernel_rfl
@[simp] theorem fact1163 : tfield PP 75 2 = some (2, 3, false, 1) := by kernel_rfl
@[simp] theorem fact1164 : tfield PP 76 0 = some (0, 3, false, 1) := by kernel_rfl
@[simp] theorem fact1165 : tfield PP 76 1 = some (1, 3, false, 1) := by kernel_rfl
@[simp] theorem fact1166 : tfield PP 76 2 = some (2, 3, false, 1) := by kernel_rfl
@[simp] theorem fact1167 : tfield PP 76 3 = some (3, 3, false, 1) := by kernel_rfl
@[simp] theorem fact1168 : tfield PP 76 4 = some (4, 3, false, 1) := by kernel_rfl
@[simp] theorem fact1169 : tfield PP 76 5 = some (5, 21, false, 1) := by kernel_rfl
@[simp] theorem fact1170 : tfield PP 76 6 = some (6, 75, true, 3) := by kernel_rfl
@[simp] theorem fact1171 : tfield PP 76 7 = some (9, 22, false, 1) := by kernel_rfl
@[simp] theorem fact1172 : tfield PP 77 0 = some (0, 3, false, 1) := by kernel_rfl
@[simp] theorem fact1173 : tfield PP 77 1 = some (1, 3, false, 1) := by kernel_rfl
@[simp] theorem fact1174 : tfield PP 77 2 = some (2, 3, false, 1) := by kernel_rfl
@[simp] theorem fact1175 : tfield PP 77 3 = some (3, 3, false, 1) := by kernel_rfl
@[simp] theorem fact1176 : tfield PP 77 4 = some (4, 3, false, 1) := by kernel_rfl
@[simp] theorem fact1177 : tfield PP 77 5 = some (5, 21, false, 1) := by kernel_rfl
@[simp] theorem fact1178 : tfield PP 77 6 = some (6, 75, true, 3) := by kernel_rfl
@[simp] theorem fact1179 : tfield PP 77 7 = some (9, 22, false, 1) := by kernel_rfl
@[simp] theorem fact1180 : tfield PP 82 0 = some (0, 3, false, 1) := by kernel_rfl
@[simp] theorem fact1181 : tfield PP 82 1 = some (1, 2, false, 1) := by kernel_rfl
@[simp] theorem fact1182 : tfield PP 82 2 = some (2, 2, false, 1) := by kernel_rfl
@[simp] theorem fact1183 : tfield PP 82 3 = some (3, 9, false, 1) := by kernel_rfl
@[simp] theorem fact1184 : tfield PP 83 0 = some (0, 3, false, 1) := by kernel_rfl
@[simp] theorem fact1185 : tfield PP 83 1 = some (1, 2, false, 1) := by kernel_rfl
@[simp] theorem fact1186 : tfield PP 83 2 = some (2, 2, false, 1) := by kernel_rfl
@[simp] theorem fact1187 : tfield PP 83 3 = some (3, 9, false, 1) := by kernel_rfl
@[simp] theorem fact1188 : tfield PP 87 0 = some (0, 25, true, 3) := by kernel_rfl
@[simp] theorem fact1189 : tfield PP 87 1 = some (3, 22, false, 1) := by kernel_rfl
@[simp] theorem fact1190 : tfield PP 87 2 = some (4, 86, false, 1) := by kernel_rfl
@[simp] theorem fact1191 : tfield PP 87 3 = some (5, 4, false, 1) := by kernel_rfl
@[simp] theorem fact1192 : tfield PP 87 4 = some (6, 2, false, 1) := by kernel_rfl
@[simp] theorem fact1193 : tfield PP 87 5 = some (7, 27, false, 1) := by kernel_rfl
@[simp] theorem fact1194 : tfield PP 87 6 = some (8, 3, false, 1) := by kernel_rfl
@[simp] theorem fact1195 : tfield PP 88 0 = some (0, 25, true, 3) := by kernel_rfl
@[simp] theorem fact1196 : tfield PP 88 1 = some (3, 22, false, 1) := by kernel_rfl
@[simp] theorem fact1197 : tfield PP 88 2 = some (4, 86, false, 1) := by kernel_rfl
@[simp] theorem fact1198 : tfield PP 88 3 = some (5, 4, false, 1) := by kernel_rfl
@[simp] theorem fact1199 : tfield PP 88 4 = some (6, 2, false, 1) := by kernel_rfl
@[simp] theorem fact1200 : tfield PP 88 5 = some (7, 27, false, 1) := by kernel_rfl
@[simp] theorem fact1201 : tfield PP 88 6 = some (8, 3, false, 1) := by kernel_rfl
@[simp] theorem fact1202 : tfield PP 97 0 = some (0, 22, false, 1) := by kernel_rfl
@[simp] theorem fact1203 : tfield PP 97 1 = some (1, 3, false, 1) := by kernel_rfl
@[simp] theorem fact1204 : tfield PP 97 2 = some (2, 4, false, 1) := by kernel_rfl
@[simp] theorem fact1205 : tfield PP 98 0 = some (0, 22, false, 1) := by kernel_rfl
@[simp] theorem fact1206 : tfield PP 98 1 = some (1, 3, false, 1) := by kernel_rfl
@[simp] theorem fact1207 : tfield PP 98 2 = some (2, 4, false, 1) := by kernel_rfl
@[simp] theorem fact1208 : tfield PP 111 0 = some (0, 4, false, 1) := by kernel_rfl
@[simp] theorem fact1209 : tfield PP 111 1 = some (1, 109, true, 9) := by kernel_rfl
@[simp] theorem fact1210 : tfield PP 111 2 = some (10, 110, false, 1) := by kernel_rfl
@[simp] theorem fact1211 : tfield PP 111 3 = some (11, 3, false, 1) := by kernel_rfl
@[simp] theorem fact1212 : tfield PP 112 0 = some (0, 4, false, 1) := by kernel_rfl
@[simp] theorem fact1213 : tfield PP 112 1 = some (1, 109, true, 9) := by kernel_rfl
@[simp] theorem fact1214 : tfield PP 112 2 = some (10, 110, false, 1) := by kernel_rfl
@[simp] theorem fact1215 : tfield PP 112 3 = some (11, 3, false, 1) := by kernel_rfl
@[simp] theorem fact1216 : tfield PP 114 0 = some (0, 113, true, 60) := by kernel_rfl
@[simp] theorem fact1217 : tfield PP 115 0 = some (0, 113, true, 60) := by kernel_rfl
@[simp] theorem fact1218 : tfield PP 122 0 = some (0, 3, false, 1) := by kernel_rfl
@[simp] theorem fact1219 : tfield PP 122 1 = some (1, 3, false, 1) := by kernel_rfl
@[simp] theorem fact1220 : tfield PP 122 2 = some (2, 27, false, 1) := by kernel_rfl
@[simp] theorem fact1221 : tfield PP 122 3 = some (3, 27, false, 1) := by kernel_rfl
@[simp] theorem fact1222 : tfield PP 123 0 = some (0, 3, false, 1) := by kernel_rfl
@[simp] theorem fact1223 : tfield PP 123 1 = some (1, 3, false, 1) := by kernel_rfl
@[simp] theorem fact1224 : tfield PP 123 2 = some (2, 27, false, 1) := by kernel_rfl
@[simp] theorem fact1225 : tfield PP 123 3 = some (3, 27, false, 1) := by kernel_rfl
@[simp] theorem fact1226 : tfield PP 141 0 = some (0, 21, false, 1) := by kernel_rfl
@[simp] theorem fact1227 : tfield PP 141 1 = some (1, 21, false, 1) := by kernel_rfl
@[simp] theorem fact1228 : tfield PP 142 0 = some (0, 21, false, 1) := by kernel_rfl
@[simp] theorem fact1229 : tfield PP 142 1 = some (1, 21, false, 1) := by kernel_rfl
@[simp] theorem fact1230 : tfield PP 148 0 = some (0, 17, false, 1) := by kernel_rfl
@[simp] theorem fact1231 : tfield PP 148 1 = some (1, 17, false, 1) := by kernel_rfl
@[simp] theorem fact1232 : tfield PP 148 2 = some (2, 17, false, 1) := by kernel_rfl
@[simp] theorem fact1233 : tfield PP 148 3 = some (3, 9, false, 1) := by kernel_rfl
@[simp] theorem fact1234 : tfield PP 149 0 = some (0, 17, false, 1) := by kernel_rfl
@[simp] theorem fact1235 : tfield PP 149 1 = some (1, 17, false, 1) := by kernel_rfl
@[simp] theorem fact1236 : tfield PP 149 2 = some (2, 17, false, 1) := by kernel_rfl
@[simp] theorem fact1237 : tfield PP 149 3 = some (3, 9, false, 1) := by kernel_rfl
@[simp] theorem fact1238 : tfield PP 151 0 = some (0, 150, true, 0) := by kernel_rfl
@[simp] theorem fact1239 : tfield PP 152 0 = some (0, 150, true, 0) := by kernel_rfl
@[simp] theorem fact1240 : tfield PP 161 0 = some (0, 12, false, 1) := by kernel_rfl
@[simp] theorem fact1241 : tfield PP 161 1 = some (1, 12, false, 1) := by kernel_rfl
@[simp] theorem fact1242 : tfield PP 161 2 = some (2, 154, false, 1) := by kernel_rfl
@[simp] theorem fact1243 : tfield PP 161 3 = some (3, 155, false, 1) := by kernel_rfl
@[simp] theorem fact1244 : tfield PP 161 4 = some (4, 5, false, 1) := by kernel_rfl
@[simp] theorem fact1245 : tfield PP 161 5 = some (5, 5, false, 1) := by kernel_rfl
@[simp] theorem fact1246 : tfield PP 161 6 = some (6, 156, false, 1) := by kernel_rfl
@[simp] theorem fact1247 : tfield PP 161 7 = some (7, 157, false, 1) := by kernel_rfl
@[simp] theorem fact1248 : tfield PP 161 8 = some (8, 158, false, 1) := by kernel_rfl
@[simp] theorem fact1249 : tfield PP 161 9 = some (9, 159, false, 1) := by kernel_rfl
@[simp] theorem fact1250 : tfield PP 161 10 = some (10, 160, false, 1) := by kernel_rfl
@[simp] theorem fact1251 : tfield PP 162 0 = some (0, 12, false, 1) := by kernel_rfl
@[simp] theorem fact1252 : tfield PP 162 1 = some (1, 12, false, 1) := by kernel_rfl
@[simp] theorem fact1253 : tfield PP 162 2 = some (2, 154, false, 1) := by kernel_rfl
@[simp] theorem fact1254 : tfield PP 162 3 = some (3, 155, false, 1) := by kernel_rfl
@[simp] theorem fact1255 : tfield PP 162 4 = some (4, 5, false, 1) := by kernel_rfl
@[simp] theorem fact1256 : tfield PP 162 5 = some (5, 5, false, 1) := by kernel_rfl
@[simp] theorem fact1257 : tfield PP 162 6 = some (6, 156, false, 1) := by kernel_rfl
@[simp] theorem fact1258 : tfield PP 162 7 = some (7, 157, false, 1) := by kernel_rfl
@[simp] theorem fact1259 : tfield PP 162 8 = some (8, 158, false, 1) := by kernel_rfl
@[simp] theorem fact1260 : tfield PP 162 9 = some (9, 159, false, 1) := by kernel_rfl
@[simp] theorem fact1261 : tfield PP 162 10 = some (10, 160, false, 1) := by kernel_rfl
theorem fn3 : PP.funcs[3]? = some Try.f3 := by kernel_rfl
@[simp] theorem call3 : callable PP 3 = true := by kernel_rfl
theorem fn4 : PP.funcs[4]? = some Try.f4 := by kernel_rfl
@[simp] theorem call4 : callable PP 4 = true := by kernel_rfl
theorem fn5 : PP.funcs[5]? = some Try.f5 := by kernel_rfl
@[simp] theorem call5 : callable PP 5 = true := by kernel_rfl
theorem fn6 : PP.funcs[6]? = some Try.f6 := by kernel_rfl
@[simp] theorem call6 : callable PP 6 = true := by kernel_rfl
theorem fn7 : PP.funcs[7]? = some Try.f7 := by kernel_rfl
@[simp] theorem call7 : callable PP 7 = true := by kernel_rfl
theorem fn8 : PP.funcs[8]? = some Try.f8 := by kernel_rfl
@[simp] theorem call8 : callable PP 8 = true := by kernel_rfl
theorem fn9 : PP.funcs[9]? = some Try.f9 := by kernel_rfl
@[simp] theorem call9 : callable PP 9 = true := by kernel_rfl
theorem fn10 : PP.funcs[10]? = some Try.f10 := by kernel_rfl
@[simp] theorem call10 : callable PP 10 = true := by kernel_rfl
theorem fn11 : PP.funcs[11]? = some Try.f11 := by kernel_rfl
@[simp] theorem call11 : callable PP 11 = true := by kernel_rfl
theorem fn12 : PP.funcs[12]? = some Try.f12 := by kernel_rfl
@[simp] theorem call12 : callable PP 12 = true := by kernel_rfl
theorem fn13 : PP.funcs[13]? = some Try.f13 := by kernel_rfl
@[simp] theorem call13 : callable PP 13 = true := by kernel_rfl
theorem fn14 : PP.funcs[14]? = some Try.f14 := by kernel_rfl
@[simp] theorem call14 : callable PP 14 = true := by kernel_rfl
theorem fn15 : PP.funcs[15]? = some Try.f15 := by kernel_rfl
@[simp] theorem call15 : callable PP 15 = true := by kernel_rfl
theorem fn16 : PP.funcs[16]? = some Try.f16 := by kernel_rfl
@[simp] theorem call16 : callable PP 16 = true := by kernel_rfl
theorem fn17 : PP.funcs[17]? = some Try.f17 := by kernel_rfl
@[simp] theorem call17 : callable PP 17 = true := by kernel_rfl
theorem fn18 : PP.funcs[18]? = some Try.f18 := by kernel_rfl
@[simp] theorem call18 : callable PP 18 = true := by kernel_rfl
theorem fn19 : PP.funcs[19]? = some Try.f19 := by kernel_rfl
@[simp] theorem call19 : callable PP 19 = true := by kernel_rfl
theorem fn20 : PP.funcs[20]? = some Try.f20 := by kernel_rfl
@[simp] theorem call20 : callable PP 20 = true := by kernel_rfl
theorem fn21 : PP.funcs[21]? = some Try.f21 := by kernel_rfl
@[simp] theorem call21 : callable PP 21 = true := by kernel_rfl
theorem fn22 : PP.funcs[22]? = some Try.f22 := by kernel_rfl
@[simp] theorem call22 : callable PP 22 = true := by kernel_rfl
theorem fn23 : PP.funcs[23]? = some Try.f23 := by kernel_rfl
@[simp] theorem call23 : callable PP 23 = true := by kernel_rfl
theorem fn24 : PP.funcs[24]? = some Try.f24 := by kernel_rfl
@[simp] theorem call24 : callable PP 24 = true := by kernel_rfl
theorem fn25 : PP.funcs[25]? = some Try.f25 := by kernel_rfl
@[simp] theorem call25 : callable PP 25 = true := by kernel_rfl
theorem fn26 : PP.funcs[26]? = some Try.f26 := by kernel_rfl
@[simp] theorem call26 : callable PP 26 = true := by kernel_rfl
theorem fn27 : PP.funcs[27]? = some Try.f27 := by kernel_rfl
@[simp] theorem call27 : callable PP 27 = true := by kernel_rfl
theorem fn28 : PP.funcs[28]? = some Try.f28 := by kernel_rfl
@[simp] theorem call28 : callable PP 28 = true := by kernel_rfl
theorem fn29 : PP.funcs[29]? = some Try.f29 := by kernel_rfl
@[simp] theorem call29 : callable PP 29 = true := by kernel_rfl
theorem fn30 : PP.funcs[30]? = some Try.f30 := by kernel_rfl
@[simp] theorem call30 : callable PP 30 = true := by kernel_rfl
theorem fn31 : PP.funcs[31]? = some Try.f31 := by kernel_rfl
@[simp] theorem call31 : callable PP 31 = true := by kernel_rfl
theorem fn32 : PP.funcs[32]? = some Try.f32 := by kernel_rfl
@[simp] theorem call32 : callable PP 32 = true := by kernel_rfl
theorem fn33 : PP.funcs[33]? = some Try.f33 := by kernel_rfl
@[simp] theorem call33 : callable PP 33 = true := by kernel_rfl
theorem fn34 : PP.funcs[34]? = some Try.f34 := by kernel_rfl
@[simp] theorem call34 : callable PP 34 = true := by kernel_rfl
theorem fn35 : PP.funcs[35]? = some Try.f35 := by kernel_rfl
@[simp] theorem call35 : callable PP 35 = true := by kernel_rfl
theorem fn36 : PP.funcs[36]? = some Try.f36 := by kernel_rfl
@[simp] theorem call36 : callable PP 36 = true := by kernel_rfl
theorem fn37 : PP.funcs[37]? = some Try.f37 := by kernel_rfl
@[simp] theorem call37 : callable PP 37 = true := by kernel_rfl
theorem fn38 : PP.funcs[38]? = some Try.f38 := by kernel_rfl
@[simp] theorem call38 : callable PP 38 = true := by kernel_rfl
theorem fn39 : PP.funcs[39]? = some Try.f39 := by kernel_rfl
@[simp] theorem call39 : callable PP 39 = true := by kernel_rfl
theorem fn40 : PP.funcs[40]? = some Try.f40 := by kernel_rfl
@[simp] theorem call40 : callable PP 40 = true := by kernel_rfl
theorem fn41 : PP.funcs[41]? = some Try.f41 := by kernel_rfl
@[simp] theorem call41 : callable PP 41 = true := by kernel_rfl
theorem fn42 : PP.funcs[42]? = some Try.f42 := by kernel_rfl
@[simp] theorem call42 : callable PP 42 = true := by kernel_rfl
theorem fn43 : PP.funcs[43]? = some Try.f43 := by kernel_rfl
@[simp] theorem call43 : callable PP 43 = true := by kernel_rfl
theorem fn44 : PP.funcs[44]? = some Try.f44 := by kernel_rfl
@[simp] theorem call44 : callable PP 44 = true := by kernel_rfl
theorem fn45 : PP.funcs[45]? = some Try.f45 := by kernel_rfl
@[simp] theorem call45 : callable PP 45 = true := by kernel_rfl
theorem fn46 : PP.funcs[46]? = some Try.f46 := by kernel_rfl
@[simp] theorem call46 : callable PP 46 = true := by kernel_rfl
theorem fn47 : PP.funcs[47]? = some Try.f47 := by kernel_rfl
@[simp] theorem call47 : callable PP 47 = true := by kernel_rfl
theorem fn48 : PP.funcs[48]? = some Try.f48 := by kernel_rfl
@[simp] theorem call48 : callable PP 48 = true := by kernel_rfl
theorem fn49 : PP.funcs[49]? = some Try.f49 := by kernel_rfl
@[simp] theorem call49 : callable PP 49 = true := by kernel_rfl
theorem fn50 : PP.funcs[50]? = some Try.f50 := by kernel_rfl
@[simp] theorem call50 : callable PP 50 = true := by kernel_rfl
theorem fn51 : PP.funcs[51]? = some Try.f51 := by kernel_rfl
@[simp] theorem call51 : callable PP 51 = true := by kernel_rfl
theorem fn52 : PP.funcs[52]? = some Try.f52 := by kernel_rfl
@[simp] theorem call52 : callable PP 52 = true := by kernel_rfl
theorem fn53 : PP.funcs[53]? = some Try.f53 := by kernel_rfl
@[simp] theorem call53 : callable PP 53 = true := by kernel_rfl
theorem fn54 : PP.funcs[54]? = some Try.f54 := by kernel_rfl
@[simp] theorem call54 : callable PP 54 = true := by kernel_rfl
theorem fn55 : PP.funcs[55]? = some Try.f55 := by kernel_rfl
@[simp] theorem call55 : callable PP 55 = true := by kernel_rfl
theorem fn56 : PP.funcs[56]? = some Try.f56 := by kernel_rfl
@[simp] theorem call56 : callable PP 56 = true := by kernel_rfl
theorem fn57 : PP.funcs[57]? = some Try.f57 := by kernel_rfl
@[simp] theorem call57 : callable PP 57 = true := by kernel_rfl
theorem fn58 : PP.funcs[58]? = some Try.f58 := by kernel_rfl
@[simp] theorem call58 : callable PP 58 = true := by kernel_rfl
theorem fn59 : PP.funcs[59]? = some Try.f59 := by kernel_rfl
@[simp] theorem call59 : callable PP 59 = true := by kernel_rfl
theorem fn60 : PP.funcs[60]? = some Try.f60 := by kernel_rfl
@[simp] theorem call60 : callable PP 60 = true := by kernel_rfl
theorem fn61 : PP.funcs[61]? = some Try.f61 := by kernel_rfl
@[simp] theorem call61 : callable PP 61 = true := by kernel_rfl
theorem fn62 : PP.funcs[62]? = some Try.f62 := by kernel_rfl
@[simp] theorem call62 : callable PP 62 = true := by kernel_rfl
theorem fn63 : PP.funcs[63]? = some Try.f63 := by kernel_rfl
@[simp] theorem call63 : callable PP 63 = true := by kernel_rfl
theorem fn64 : PP.funcs[64]? = some Try.f64 := by kernel_rfl
@[simp] theorem call64 : callable PP 64 = true := by kernel_rfl
theorem fn65 : PP.funcs[65]? = some Try.f65 := by kernel_rfl
@[simp] theorem call65 : callable PP 65 = true := by kernel_rfl
theorem fn66 : PP.funcs[66]? = some Try.f66 := by kernel_rfl
@[simp] theorem call66 : callable PP 66 = true := by kernel_rfl
theorem fn67 : PP.funcs[67]? = some Try.f67 := by kernel_rfl
@[simp] theorem call67 : callable PP 67 = true := by kernel_rfl
theorem fn68 : PP.funcs[68]? = some Try.f68 := by kernel_rfl
@[simp] theorem call68 : callable PP 68 = true := by kernel_rfl
theorem fn69 : PP.funcs[69]? = some Try.f69 := by kernel_rfl
@[simp] theorem call69 : callable PP 69 = true := by kernel_rfl
theorem fn70 : PP.funcs[70]? = some Try.f70 := by kernel_rfl
@[simp] theorem call70 : callable PP 70 = true := by kernel_rfl
theorem fn71 : PP.funcs[71]? = some Try.f71 := by kernel_rfl
@[simp] theorem call71 : callable PP 71 = true := by kernel_rfl
theorem fn72 : PP.funcs[72]? = some Try.f72 := by kernel_rfl
@[simp] theorem call72 : callable PP 72 = true := by kernel_rfl
theorem fn73 : PP.funcs[73]? = some Try.f73 := by kernel_rfl
@[simp] theorem call73 : callable PP 73 = true := by kernel_rfl
theorem fn74 : PP.funcs[74]? = some Try.f74 := by kernel_rfl
@[simp] theorem call74 : callable PP 74 = true := by kernel_rfl
theorem fn75 : PP.funcs[75]? = some Try.f75 := by kernel_rfl
@[simp] theorem call75 : callable PP 75 = true := by kernel_rfl
theorem fn76 : PP.funcs[76]? = some Try.f76 := by kernel_rfl
@[simp] theorem call76 : callable PP 76 = true := by kernel_rfl
theorem mixed : PP.follows .mixedOrders = true := by kernel_rfl
end Go.Eng.M
